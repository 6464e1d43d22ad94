/- Sifted out of this repo's own templates by tool/sift.py. -/
import Derived.Test.YtijbcdiffjjefaaGreatDoorZxLib
import Derived.Test.YtijbcdiffjjefaaGreatDoorZxAd
import Derived.Test.YtijbcdiffjjefaaGreatDoorZxSh
import Derived.Below
import Derived.Lib.SplitLaws
import Derived.Lib.CountLaws
import Derived.Lib.Split
import Derived.Lib.Join
import Derived.Lib.ItoaNum
import Derived.Lib.AtoiAll
import Derived.Lib.ItoaMem
import Derived.Laws.MakeOwn
import Derived.Lib.AppendIntMem
import Derived.Lib.AtoiErrMem
import Derived.Lib.AppendStr
import Derived.Shelf.Strings.Builder1
import Derived.WideShapes
import Derived.ChangeSame
import Derived.Test.YtijbcdiffjjefaaGreatDoorZxVo
import Derived.Test.YtijbcdiffjjefaaGreatDoorZxGg
import Derived.Test.YtijbcdiffjjefaaGreatDoorZxTab
set_option linter.unusedVariables false
set_option linter.unusedSimpArgs false
set_option maxRecDepth 100000
namespace Go.Proofs.YtijbcdiffjjefaaGreatDoor.Eng
open Go Go.RowKit Go.ChangeShapes Go.WideShapes
def uS (b:UInt8):Option Nat:=
 if 48≤b.toNat∧b.toNat≤57 then some (b.toNat-48)else if 97≤b.toNat∧b.toNat≤102 then some (b.toNat-87)else none
def pairs:List UInt8→Option (List UInt8)
 | []=>some []
 | [_]=>none
 |a::b::l=>match uS a,uS b,pairs l with
  |some x,some y,some r=>some (UInt8.ofNat (16*x+y)::r)
  |_,_,_=>none
def dM (l:List UInt8):Option (List UInt8):=if l= [45]then some []else if l= []then none else pairs l
theorem G5 {p:UInt8→Prop} (h:∀n:Fin 256,p (UInt8.ofNat n.val)) (b:UInt8):p b:=by
 have:=h ⟨b.toNat,b.toNat_lt⟩;simpa using this
theorem q_:∀b n,uS b=some n→n<16:=by
 intro b n h;unfold uS at h;split at h
 ·cases h;omega
 ·split at h
  ·cases h;omega
  ·cases h
theorem Cx:∀n:Fin 16,uS (hx n.val)=some n.val:=by decide
theorem HD (n:Nat) (h:n<16):uS (hx n)=some n:=Cx ⟨n,h⟩
theorem Dw:∀n:Fin 256,∀k:Fin 16,uS (UInt8.ofNat n.val)=some k.val→hx k.val=UInt8.ofNat n.val:=by decide+kernel
theorem HY (b:UInt8) (n:Nat) (h:uS b=some n):hx n=b:=
 G5 (p:=fun b=>∀n,uS b=some n→hx n=b) (fun k n h=>Dw k ⟨n,q_ _ n h⟩ h) b n h
theorem sf (l:List UInt8):(eZ l).length=2*l.length:=by
 induction l with
 |nil=>rfl
 |cons b l ih=>simp [eZ,ih];omega
theorem Fe (l:List UInt8):pairs (eZ l)=some l:=by
 induction l with
 |nil=>rfl
 |cons b l ih=>
  have hb:=b.toNat_lt;simp only [eZ,pairs,HD _ (show b.toNat/16<16 by omega),HD _ (show b.toNat%16<16 by omega),ih];rw [Nat.div_add_mod b.toNat 16];simp
theorem Fd (n:Nat):∀(l:List UInt8),l.length≤n→∀r,pairs l=some r→eZ r=l:=by
 induction n with
 |zero=>
  intro l hl r h;cases l with
  |nil=>simp [pairs]at h;subst h;rfl
  |cons a l=>simp at hl
 |succ n ih=>
  intro l hl r h
  match l,hl,h with
  | [],_,h=>simp [pairs]at h;subst h;rfl
  | [_],_,h=>simp [pairs]at h
  |a::b::l,hl,h=>
   simp only [pairs]at h;split at h
   ·rename_i x y r' hx' hy hr;cases h;have h1:=q_ _ _ hx';have h2:=q_ _ _ hy;have hval:(UInt8.ofNat (16*x+y)).toNat=16*x+y:=by simp;omega
    simp only [eZ,hval];rw [show(16*x+y)/16=x by omega,show(16*x+y)%16=y by omega,HY _ _ hx',HY _ _ hy,ih l (by simp at hl;omega) _ hr]
   ·cases h
theorem vd (l:List UInt8):dM (jU l)=some l:=by
 unfold jU;split
 ·rename_i h;subst h;rfl
 ·rename_i h;have hlen:=sf l;unfold dM;rw [if_neg,if_neg,Fe]
  ·intro e;rw [e]at hlen;simp at hlen;exact h (List.eq_nil_of_length_eq_zero (by omega))
  ·intro e;rw [e]at hlen;simp at hlen;omega
theorem lW (l r:List UInt8) (h:dM l=some r):jU r=l:=by
 unfold dM at h;split at h
 ·rename_i e;subst e;cases h;rfl
 ·rename_i e;split at h
  ·cases h
  ·rename_i e2;have hb:=Fd l.length l (Nat.le_refl _) r h;unfold jU;rw [if_neg,hb];intro e3;subst e3;exact e2 hb.symm
def a_ (c:UInt8):List UInt8→List (List UInt8)
 | []=>[[]]
 |b::l=>if b=c then []::a_ c l else match a_ c l with
  |h::t=>(b::h)::t
  | []=>[[b]]
theorem hO (c:UInt8) (l:List UInt8):a_ c l≠ []:=by
 cases l with
 |nil=>simp [a_]
 |cons b l=>
  simp only [a_];split
  ·simp
  ·split<;>simp
theorem tr (c b:UInt8) (l:List UInt8):Lib.index (b::l) [c]=if b=c then 0 else if Lib.index l [c]= -1 then -1 else Lib.index l [c]+1:=by
 rw [Lib.index];by_cases h:b=c
 ·subst h;simp [List.isPrefixOf]
 ·have:¬c=b:=fun e=>h e.symm;simp [List.isPrefixOf,h,this]
theorem pi (c:UInt8):∀l,Lib.index l [c]= -1→a_ c l= [l]
 | [],_=>rfl
 |b::l,h=>by
  rw [tr]at h;by_cases hb:b=c
  ·rw [if_pos hb]at h;omega
  ·rw [if_neg hb]at h;by_cases hi:Lib.index l [c]= -1
   ·simp only [a_,if_neg hb,pi c l hi]
   ·rw [if_neg hi]at h;have:=Lib.index_ge l [c];omega
theorem qW (c:UInt8):∀(l:List UInt8) (i:Nat),Lib.index l [c]=i→a_ c l=l.take i::a_ c (l.drop (i+1))
 | [],i,h=>by simp [Lib.index]at h
 |b::l,i,h=>by
  rw [tr]at h;by_cases hb:b=c
  ·rw [if_pos hb]at h;have:i=0:=by omega
   subst this;simp [a_,if_pos hb]
  ·rw [if_neg hb]at h;by_cases hi:Lib.index l [c]= -1
   ·rw [if_pos hi]at h;omega
   ·rw [if_neg hi]at h;have hg:=Lib.index_ge l [c];obtain⟨j,rfl⟩:∃j,i=j+1:=⟨i-1,by omega⟩;have:=qW c l j (by omega);simp only [a_,if_neg hb,this];simp
theorem qm (c:UInt8) (l:List UInt8):Lib.index l [c]= -1∨∃i:Nat,Lib.index l [c]=i∧i<l.length:=by
 have hg:=Lib.index_ge l [c];by_cases h:Lib.index l [c]= -1
 ·exact .inl h
 ·right;have:=Lib.index_room l [c] (by omega);refine⟨(Lib.index l [c]).toNat,by omega,?_⟩;simp at this;omega
theorem G7 (c:UInt8) (l:List UInt8) (h:Lib.index l [c]= -1):Lib.cut l [c]=(l,[],false):=by
 unfold Lib.cut;rw [if_neg (by omega)]
theorem Jg (c:UInt8) (l:List UInt8) (i:Nat) (h:Lib.index l [c]=i):Lib.cut l [c]=(l.take i,l.drop (i+1),true):=by
 unfold Lib.cut;rw [if_pos (by omega),h];simp
theorem zP (c:UInt8) (n:Nat):∀l:List UInt8,l.length≤n→Lib.splitK [c] 0 (Lib.count l [c]) l=a_ c l:=by
 induction n with
 |zero=>
  intro l hl;have:l= []:=List.eq_nil_of_length_eq_zero (by omega);subst this;simp [a_,Lib.count_one,Lib.splitK]
 |succ n ih=>
  intro l hl;rcases qm c l with h |⟨i,h,hi⟩
  ·rw [Lib.count_miss h,pi c l h];simp [Lib.splitK]
  ·rw [Lib.count_hit (by simp) h,qW c l i h,Nat.add_comm];have:=ih (l.drop (i+1)) (by rw [List.length_drop];omega);simp only [Lib.splitK,h];rw [if_neg (by simp)];simp only [Int.toNat_natCast,Nat.add_zero,List.length_singleton,this]
theorem rX (c:UInt8) (s:ByteArray):(Lib.splitB ⟨#[c]⟩ 0 (Lib.countB s ⟨#[c]⟩) s).map (·.data.toList)=a_ c s.data.toList:=by
 rw [Lib.splitB_data];exact zP c s.data.toList.length s.data.toList (Nat.le_refl _)
theorem B6 (c:UInt8) (s:ByteArray):(a_ c s.data.toList).length=Lib.countB s ⟨#[c]⟩+1:=by
 rw [←rX,List.length_map];exact Lib.splitB_all ⟨#[c]⟩ (show 1≤1 from Nat.le_refl 1) 0 _ s rfl
theorem BX (c:UInt8) (a r:List UInt8) (h:c∉a):a_ c (a++c::r)=a::a_ c r:=by
 induction a with
 |nil=>simp [a_]
 |cons b a ih=>
  have hb:¬b=c:=fun e=>h (by simp [e]);simp only [List.cons_append,a_,if_neg hb,ih (fun e=>h (by simp [e]))]
theorem Fm (c:UInt8) (a:List UInt8) (h:c∉a):a_ c a= [a]:=by
 induction a with
 |nil=>rfl
 |cons b a ih=>
  have hb:¬b=c:=fun e=>h (by simp [e]);simp only [a_,if_neg hb,ih (fun e=>h (by simp [e]))]
def Cd (b:UInt8):Prop:=48≤b.toNat∧b.toNat≤57
def jA (n:Nat) (l:List UInt8):Nat:=l.foldl step n
theorem GX (n:Nat):jA n []=n:=rfl
theorem oL (n:Nat) (b:UInt8) (r:List UInt8):jA n (b::r)=jA (step n b) r:=by unfold jA;rw [List.foldl_cons]
theorem sm (n:Nat) (b:UInt8):jA n [b]=step n b:=rfl
def vK (l:List UInt8):Prop:=l≠ []∧(∀b∈l,Cd b)∧(1<l.length→l.head?≠some 48)
def AV:Nat:=9223372036854775807
theorem pO (a b:List UInt8) (n:Nat):jA n (a++b)=jA (jA n a) b:=List.foldl_append
theorem E' (l:List UInt8):∀n,n≤jA n l:=by
 induction l with
 |nil=>intro n;exact Nat.le_refl _
 |cons b l ih=>intro n;rw [oL];exact Nat.le_trans (by unfold step;omega) (ih _)
theorem rz (d:Nat) (h:d<10):(UInt8.ofNat (48+d)).toNat=48+d:=by simp;omega
theorem HT (b:UInt8) (h:Cd b):UInt8.ofNat (48+(b.toNat-48))=b:=by
 unfold Cd at h;rw [show 48+(b.toNat-48)=b.toNat by omega];simp
theorem BS (u:Nat):jA 0 (Lib.decDigits u)=u:=by
 induction u using Nat.strongRecOn with
 |_ u ih=>
  rw [Lib.decDigits];split
  ·rename_i h;rw [sm,step,rz u h];omega
  ·rename_i h;rw [pO,ih (u/10) (by omega)];rw [sm,step,rz (u%10) (by omega)];omega
theorem Ej (u:Nat):Lib.decDigits u≠ []:=by
 rw [Lib.decDigits];split<;>simp
theorem gi (u:Nat):∀b∈Lib.decDigits u,Cd b:=by
 induction u using Nat.strongRecOn with
 |_ u ih=>
  rw [Lib.decDigits];split
  ·rename_i h;intro b hb;simp only [List.mem_singleton]at hb;subst hb;unfold Cd;rw [rz u h];omega
  ·rename_i h;intro b hb;rcases List.mem_append.1 hb with hb |hb
   ·exact ih (u/10) (by omega) b hb
   ·simp only [List.mem_singleton]at hb;subst hb;unfold Cd;rw [rz (u%10) (by omega)];omega
theorem IP (u:Nat):u≠0→(Lib.decDigits u).head?≠some 48:=by
 induction u using Nat.strongRecOn with
 |_ u ih=>
  intro h0;rw [Lib.decDigits];split
  ·rename_i h;intro e;simp only [List.head?_cons,Option.some.injEq]at e;have:=congrArg UInt8.toNat e;rw [rz u h]at this;simp at this;omega
  ·rename_i h;have hne:=Ej (u/10);have:=ih (u/10) (by omega) (by omega);cases hd:Lib.decDigits (u/10)with
   |nil=>exact absurd hd hne
   |cons x xs=>rw [hd]at this;simpa using this
theorem Aw (u:Nat):vK (Lib.decDigits u):=by
 refine⟨Ej u,gi u,fun h=>?_⟩;by_cases h0:u=0
 ·subst h0;rw [Lib.decDigits]at h;simp at h
 ·exact IP u h0
theorem pz (n:Nat):∀l:List UInt8,l.length≤n→vK l→Lib.decDigits (jA 0 l)=l:=by
 induction n with
 |zero=>intro l hl h;exact absurd (List.eq_nil_of_length_eq_zero (by omega)) h.1
 |succ n ih=>
  intro l hl h;obtain⟨l',b,rfl⟩:∃l' b,l=l'++ [b]:=⟨l.dropLast,l.getLast h.1,(List.dropLast_concat_getLast h.1).symm⟩;have hb:Cd b:=h.2.1 b (by simp);have hb':=hb;unfold Cd at hb';rw [pO,sm,step];cases hl':l' with
  |nil=>
   rw [GX];rw [Lib.decDigits_one (show 10*0+(b.toNat-48) <10 by omega),show 48+(10*0+(b.toNat-48))=48+(b.toNat-48) by omega,HT b hb];rfl
  |cons x t=>
   rw [←hl'];have hx:l'.head?≠some 48:=by
    have:=h.2.2 (by rw [hl'];simp);rw [hl']at this⊢;simpa using this
   have hxd:Cd x:=h.2.1 x (by rw [hl'];simp);have hm:1≤jA 0 l':=by
    rw [hl']at hx⊢;rw [oL];refine Nat.le_trans ?_ (E' t _);unfold step;have hx48:x.toNat≠48:=by
     intro e;apply hx;simp only [List.head?_cons,Option.some.injEq];exact UInt8.toNat_inj.1 e
    unfold Cd at hxd;omega
   have hrec:=ih l' (by simp at hl;omega) ⟨by rw [hl'];simp,fun c hc=>h.2.1 c (by simp [hc]),fun _=>hx⟩;rw [Lib.decDigits,dif_neg (by omega),show(10*jA 0 l'+(b.toNat-48))/10=jA 0 l' by omega,hrec,show(10*jA 0 l'+(b.toNat-48))%10=b.toNat-48 by omega,HT b hb]
theorem vS (l:List UInt8):∀acc,(∀b∈l,Cd b)→jA acc l<18446744073709551616→Lib.parseUint10 acc l= .ok (jA acc l):=by
 induction l with
 |nil=>intro acc _ _;rfl
 |cons b l ih=>
  intro acc hd hv;have hb:=hd b (by simp);unfold Cd at hb;rw [oL]at hv⊢;have hge:=Nat.lt_of_le_of_lt (E' l (step acc b)) hv;have hrec:=ih (step acc b) (fun c hc=>hd c (by simp [hc])) hv;unfold step at hge;rw [Lib.parseUint10,if_pos hb,if_neg (by omega),if_neg (by omega),show acc*10+(b.toNat-48)=step acc b by unfold step;omega];exact hrec
theorem nM (u:Nat) (h:u≤AV):Lib.atoiAll (Lib.decDigits u)= .ok (u:Int):=by
 unfold AV at h;have hd:=gi u;have hv:=BS u;cases hl:Lib.decDigits u with
 |nil=>exact absurd hl (Ej u)
 |cons c r=>
  have hc:Cd c:=hd c (by rw [hl];simp);unfold Cd at hc;have hp:Lib.parseMag (c::r)= .ok u:=by
   unfold Lib.parseMag;rw [if_neg (by simp), ←hl,vS _ 0 hd (by rw [hv];omega),hv]
  simp only [Lib.atoiAll];rw [if_neg (by omega),hp];simp only [];rw [if_neg (by omega),if_neg (by omega),if_neg (by omega)]
open Classical in
noncomputable def fY (l:List UInt8) (most:Int):Option Nat:=if vK l∧jA 0 l≤AV∧(jA 0 l:Int)≤most then some (jA 0 l)else none
theorem pw (l:List UInt8) (most:Int) (u:Nat) (hu:u≤AV) (hm:(u:Int)≤most) (h:Lib.decDigits u=l):fY l most=some u:=by
 subst h;unfold fY;rw [BS,if_pos ⟨Aw u,hu,hm⟩]
theorem Bt (l:List UInt8) (most:Int) (h:∀u:Nat,u≤AV→(u:Int)≤most→Lib.decDigits u≠l):fY l most=none:=by
 unfold fY;rw [if_neg];rintro⟨h1,h2,h3⟩;exact h _ h2 h3 (pz l.length l (Nat.le_refl _) h1)
theorem nj (w:Bs):cT [w]=w:=Lib.join_one w [32]
theorem iV (w x:Bs) (r:List Bs):cT (w::x::r)=w++32::cT (x::r):=by
 unfold cT;rw [Lib.join_cons,Lib.join_cons];simp [Lib.joinTail]
theorem dw (ws:List Bs) (hne:ws≠ []) (h:∀w∈ws,32∉w):a_ 32 (cT ws)=ws:=by
 induction ws with
 |nil=>exact absurd rfl hne
 |cons w r ih=>
  cases r with
  |nil=>rw [nj];exact Fm 32 w (h w (by simp))
  |cons x r=>
   rw [iV,BX 32 w _ (h w (by simp)),ih (by simp) (fun y hy=>h y (by simp [hy]))]
theorem gl (l:Bs):cT (a_ 32 l)=l:=by
 induction l with
 |nil=>rfl
 |cons b l ih=>
  simp only [a_];split
  ·rename_i hb;subst hb;cases hc:a_ 32 l with
   |nil=>exact absurd hc (hO 32 l)
   |cons x r=>
    rw [iV, ←hc,ih];rfl
  ·cases hc:a_ 32 l with
   |nil=>exact absurd hc (hO 32 l)
   |cons x r=>
    rw [hc]at ih;cases r with
    |nil=>rw [nj]at ih⊢;rw [ih]
    |cons y r=>rw [iV]at ih⊢;rw [List.cons_append,ih]
theorem DL (ls:List Bs) (h:∀l∈ls,10∉l):a_ 10 (lK ls)=ls++ [[]]:=by
 induction ls with
 |nil=>rfl
 |cons l r ih=>
  have:lK (l::r)=l++10::lK r:=by simp [lK]
  rw [this,BX 10 l _ (h l (by simp)),ih (fun y hy=>h y (by simp [hy]))];rfl
theorem Cl (t:Bs) (h:(a_ 10 t).getLast?=some []):lK (a_ 10 t).dropLast=t:=by
 induction t with
 |nil=>rfl
 |cons b t ih=>
  cases hc:a_ 10 t with
  |nil=>exact absurd hc (hO 10 t)
  |cons x r=>
   simp only [a_,hc]at h⊢;rw [hc]at ih;split at h
   ·rename_i hb;subst hb;rw [if_pos rfl];rw [List.getLast?_cons_cons]at h;have:=ih h;rw [List.dropLast_cons_of_ne_nil (by simp)];simp only [lK,List.map_cons,List.flatten_cons]at this⊢;rw [this];rfl
   ·rename_i hb;rw [if_neg hb];cases r with
    |nil=>simp at h
    |cons y r=>
     rw [List.getLast?_cons_cons]at h;have:=ih (by rw [List.getLast?_cons_cons];exact h);rw [List.dropLast_cons_of_ne_nil (by simp)]at this⊢;simp only [lK,List.map_cons,List.flatten_cons,List.cons_append]at this⊢;rw [this]
theorem lQ (c:UInt8) (l:Bs):∀w∈a_ c l,c∉w:=by
 induction l with
 |nil=>intro w hw;simp [a_]at hw;subst hw;simp
 |cons b l ih=>
  intro w hw;simp only [a_]at hw;split at hw
  ·rcases List.mem_cons.1 hw with e |e
   ·subst e;simp
   ·exact ih w e
  ·rename_i hb;cases hc:a_ c l with
   |nil=>exact absurd hc (hO c l)
   |cons x r=>
    rw [hc]at hw ih;rcases List.mem_cons.1 hw with e |e
    ·subst e;intro hm;rcases List.mem_cons.1 hm with e |e
     ·exact hb e.symm
     ·exact ih x (by simp) e
    ·exact ih w (by simp [e])
theorem ma (b:UInt8) (h:Cd b):b≠32∧b≠10:=by
 unfold Cd at h;constructor<;>(intro e;subst e;simp at h)
theorem dX (n:Int):32∉Lib.itoa n∧10∉Lib.itoa n:=by
 unfold Lib.itoa;split
 ·constructor
  ·intro h;rcases List.mem_cons.1 h with e |e
   ·cases e
   ·exact(ma _ (gi _ _ e)).1 rfl
  ·intro h;rcases List.mem_cons.1 h with e |e
   ·cases e
   ·exact(ma _ (gi _ _ e)).2 rfl
 ·exact⟨fun e=>(ma _ (gi _ _ e)).1 rfl,fun e=>(ma _ (gi _ _ e)).2 rfl⟩
theorem G3:∀n:Fin 16,hx n.val≠32∧hx n.val≠10:=by decide
theorem wh (l:Bs):32∉eZ l∧10∉eZ l:=by
 induction l with
 |nil=>simp [eZ]
 |cons b l ih=>
  have hb:=b.toNat_lt;have h1:=G3 ⟨b.toNat/16,by omega⟩;have h2:=G3 ⟨b.toNat%16,by omega⟩;simp only [eZ,List.mem_cons,not_or];exact⟨⟨fun e=>h1.1 e.symm,fun e=>h2.1 e.symm,ih.1⟩,⟨fun e=>h1.2 e.symm,fun e=>h2.2 e.symm,ih.2⟩⟩
theorem fu (l:Bs):32∉jU l∧10∉jU l:=by
 unfold jU;split
 ·decide
 ·exact wh l
abbrev d_:Int:=1073741824
noncomputable def dP (w:Bs):Option Int:=(fY w d_).map fun u=>(u:Int)
noncomputable def fI:List Bs→Option (Int×Int)
 | [a,b]=>match dP a,dP b with
  |some x,some y=>some (x,y)
  |_,_=>none
 |_=>none
noncomputable def iY:List Bs→Option (Int×Int×Int)
 | [a,b,c]=>match dP a,dP b,dP c with
  |some x,some y,some z=>some (x,y,z)
  |_,_,_=>none
 |_=>none
def ud:List Bs→Option Bs
 | [a]=>dM a
 |_=>none
noncomputable def gF:List Bs→Option (Int×Bs)
 | [a,b]=>match dP a,dM b with
  |some x,some y=>some (x,y)
  |_,_=>none
 |_=>none
noncomputable def mn (s:ak):List Bs→Option (ak×Nat)
 | []=>none
 |first::l=>
  if first=fe then
   (if l= [jP]then some ({s with ranked:=true},0)else if l= [gA]then some ({s with ranked:=false},0)else none)
  else if first=wMerge then(fI l).map fun m=>({s with merges:=s.merges++ [m]},1)
  else if first=wToken then(ud l).map fun m=>({s with tokens:=s.tokens++ [m]},1)
  else if first=wSpecial then(gF l).map fun m=>({s with specials:=s.specials++ [m]},2)
  else if first=wClass then(iY l).map fun m=>({s with classes:=s.classes++ [m]},3)
  else if first=wJoin then(fI l).map fun m=>({s with joins:=s.joins++ [m]},4)
  else none
def jg (k n:Nat):Option (ak×Nat)→Option (ak×Nat)
 |none=>none
 |some (x,j)=>if(n=0↔j=0)∧k≤j∧x.right=true then some (x,j)else none
noncomputable def dn (s:ak) (k n:Nat) (line:Bs):Option (ak×Nat):=jg k n (mn s (a_ 32 line))
noncomputable def dj (s:ak) (k n:Nat):List Bs→Except Nat (ak×Nat)
 | []=>.ok (s,k)
 |l::r=>match dn s k n l with
  |none=>.error (n+1)
  |some (x,j)=>dj x j (n+1) r
noncomputable def eN (t:Bs):Except Nat ak:=
 match dj {} 0 0 (a_ 10 t).dropLast with
 | .error n=>.error n
 | .ok s=>if(a_ 10 t).getLast?=some []∧(a_ 10 t).dropLast≠ []then .ok s.1 else .error (a_ 10 t).length
noncomputable def bS (l:List Bs) (i:Nat):Int:=match l[i]? with
 |some w=>(dP w).getD (-1)
 |none=> -1
def fG (l:List Bs) (i:Nat):Bs:=match l[i]? with
 |some w=>(dM w).getD []
 |none=>[]
noncomputable def kZ (s:ak) (line:Bs) (l:List Bs):ak:=
 if l.head?=some fe then {s with ranked:=decide (line=iM true)}
 else if l.head?=some wMerge then {s with merges:=s.merges++ [(bS l 1,bS l 2)]}
 else if l.head?=some wToken then {s with tokens:=s.tokens++ [fG l 1]}
 else if l.head?=some wSpecial then {s with specials:=s.specials++ [(bS l 1,fG l 2)]}
 else if l.head?=some wClass then {s with classes:=s.classes++ [(bS l 1,bS l 2,bS l 3)]}
 else if l.head?=some wJoin then {s with joins:=s.joins++ [(bS l 1,bS l 2)]}
 else s
noncomputable def sd (s:ak) (n:Nat) (line:Bs):Option ak:=
 if(kZ s line (a_ 32 line)).right=true∧(kZ s line (a_ 32 line)).lines.length=n+1∧(kZ s line (a_ 32 line)).lines[n]? =some line then some (kZ s line (a_ 32 line))else none
noncomputable def CH (s:ak) (n:Nat):List Bs→Except Nat ak
 | []=>.ok s
 |l::r=>match sd s n l with
  |none=>.error (n+1)
  |some x=>CH x (n+1) r
theorem dq {w:Bs} {x:Int} (h:dP w=some x):Lib.itoa x=w∧0≤x:=by
 unfold dP at h;obtain⟨u,hu,rfl⟩:=Option.map_eq_some_iff.1 h;unfold fY at hu;split at hu
 ·rename_i hc;cases hu;exact⟨by rw [Lib.itoa_nonneg];exact pz w.length w (Nat.le_refl _) hc.1,by omega⟩
 ·cases hu
theorem ig (u:Nat) (h:(u:Int)≤d_):dP (Lib.itoa (u:Int))=some (u:Int):=by
 unfold dP;rw [Lib.itoa_nonneg,pw _ _ u (by unfold AV;unfold d_ at h;omega) h rfl];rfl
theorem gu {l:List Bs} {i:Nat} (h:0≤bS l i):∃w,l[i]? =some w∧dP w=some (bS l i):=by
 unfold bS at h⊢;split at h
 ·rename_i w hw;cases hn:dP w with
  |none=>rw [hn]at h;simp at h
  |some x=>exact⟨w,hw,by simp [hn]⟩
 ·omega
theorem sx {l:List Bs} {i:Nat} (h:fG l i≠ []):∃w,l[i]? =some w∧dM w=some (fG l i):=by
 unfold fG at h⊢;split at h
 ·rename_i w hw;cases hn:dM w with
  |none=>rw [hn]at h;simp at h
  |some x=>exact⟨w,hw,by simp [hn]⟩
 ·exact absurd rfl h
theorem jv {l:List Bs} {i:Nat} {w:Bs} {x:Int} (h:l[i]? =some w) (hx:dP w=some x):bS l i=x:=by
 unfold bS;rw [h];simp [hx]
theorem yv {l:List Bs} {i:Nat} {w x:Bs} (h:l[i]? =some w) (hx:dM w=some x):fG l i=x:=by
 unfold fG;rw [h];simp [hx]
theorem Eu (m:Int×Int):a_ 32 (gS m)= [wMerge,Lib.itoa m.1,Lib.itoa m.2]:=
 dw _ (by simp) (by intro w hw;simp at hw;rcases hw with rfl |rfl |rfl<;>first |decide |exact(dX _).1 |exact(fu _).1)
theorem tF (t:Bs):a_ 32 (gp t)= [wToken,jU t]:=
 dw _ (by simp) (by intro w hw;simp at hw;rcases hw with rfl |rfl<;>first |decide |exact(dX _).1 |exact(fu _).1)
theorem oE (x:Int×Bs):a_ 32 (dQ x)= [wSpecial,Lib.itoa x.1,jU x.2]:=
 dw _ (by simp) (by intro w hw;simp at hw;rcases hw with rfl |rfl |rfl<;>first |decide |exact(dX _).1 |exact(fu _).1)
theorem ri (c:Int×Int×Int):a_ 32 (ir c)= [wClass,Lib.itoa c.1,Lib.itoa c.2.1,Lib.itoa c.2.2]:=
 dw _ (by simp) (by intro w hw;simp at hw;rcases hw with rfl |rfl |rfl |rfl<;>first |decide |exact(dX _).1 |exact(fu _).1)
theorem uW (m:Int×Int):a_ 32 (ny m)= [wJoin,Lib.itoa m.1,Lib.itoa m.2]:=
 dw _ (by simp) (by intro w hw;simp at hw;rcases hw with rfl |rfl |rfl<;>first |decide |exact(dX _).1 |exact(fu _).1)
theorem lV (r:Bool):a_ 32 (iM r)= [fe,if r then jP else gA]:=
 dw _ (by simp) (by intro w hw;simp at hw;rcases hw with rfl |rfl<;>first |decide |exact(dX _).1 |exact(fu _).1 |(cases r<;>decide))
theorem Gm {s x:ak} {n:Nat} {line lk w:Bs} {pre post:List Bs} (hs:s.lines=pre++post) (hn:s.lines.length=n) (hx:x.lines=pre++lk::post)
  (hline:(a_ 32 line).head?=some w) (hpost:∀p∈post,(a_ 32 p).head?≠some w):(x.lines.length=n+1∧x.lines[n]? =some line)↔(post= []∧lk=line):=by
 rw [hs,List.length_append]at hn;rw [hx];constructor
 ·rintro⟨_,h⟩;cases post with
  |nil=>
   simp at hn;rw [List.getElem?_append_right (by omega)]at h;rw [show n-pre.length=0 by omega]at h;simpa using h
  |cons p r=>
   exfalso;rw [List.getElem?_append_right (by omega)]at h;simp at hn;rw [show n-pre.length=(r.length)+1 by omega,List.getElem?_cons_succ]at h;have hm:=List.mem_of_getElem? h;exact hpost line hm hline
 ·rintro⟨rfl,rfl⟩;simp at hn;subst hn;simp
def gm (s:ak):Nat:=if s.joins≠ []then 4 else if s.classes≠ []then 3 else if s.specials≠ []then 2 else if s.merges≠ []∨s.tokens≠ []then 1 else 0
def xY (s:ak) (k n:Nat) (done:List Bs):Prop:=(n=0∧s= {}∧k=0∧done= [])∨(0<n∧s.lines=done∧done.length=n∧s.right=true∧k=gm s)
theorem jJ {s x:ak} {n k j:Nat} {line lk w:Bs} {pre post done:List Bs} (item:Option (ak×Nat)) (hd:s.lines=done) (hs:s.lines=pre++post) (hn:s.lines.length=n) (h0:n≠0) (hx:x.lines=pre++lk::post)
  (hline:(a_ 32 line).head?=some w) (hpost:∀p∈post,(a_ 32 p).head?≠some w) (hj:j≠0) (hk:x.right=true→(k≤j↔post= [])) (hkind:x.right=true→post= []→gm x=j)
  (h1:∀y,item=some y→y=(x,j)∧lk=line) (h2:x.right=true→lk=line→item=some (x,j)):
  (if x.right=true∧x.lines.length=n+1∧x.lines[n]? =some line then some x else none)=
   (jg k n item).map (·.1)∧
  ∀y j',jg k n item=some (y,j')→xY y j' (n+1) (done++ [line]):=by
 have hll:=Gm hs hn hx hline hpost;cases hi:item with
 |none=>
  refine⟨?_,by simp [jg]⟩;rw [if_neg]
  ·rfl
  ·rintro⟨hr,hl⟩;have:=h2 hr (hll.1 hl).2;rw [hi]at this;cases this
 |some y=>
  obtain⟨rfl,hlk⟩:=h1 y hi;by_cases hr:x.right=true
  ·by_cases hp:post= []
   ·have hc:x.right=true∧x.lines.length=n+1∧x.lines[n]? =some line:=⟨hr,hll.2 ⟨hp,hlk⟩⟩;have hc2:(n=0↔j=0)∧k≤j∧x.right=true:=⟨by constructor<;>intro e<;>omega,(hk hr).2 hp,hr⟩
    rw [if_pos hc];simp only [jg,if_pos hc2];refine⟨rfl,?_⟩;intro y j' e;cases e;refine .inr ⟨by omega,?_,?_,hr,(hkind hr hp).symm⟩
    ·rw [hx, ←hd,hs,hp,hlk];simp
    ·rw [←hd,List.length_append,hn];rfl
   ·rw [if_neg (by rintro⟨_,hl⟩;exact hp (hll.1 hl).1)];have hc2:¬((n=0↔j=0)∧k≤j∧x.right=true):=by rintro⟨_,h,_⟩;exact hp ((hk hr).1 h)
    simp only [jg,if_neg hc2];exact⟨rfl,by simp⟩
  ·rw [if_neg (by rintro⟨h,_⟩;exact hr h)];have hc2:¬((n=0↔j=0)∧k≤j∧x.right=true):=by rintro⟨_,_,h⟩;exact hr h
   simp only [jg,if_neg hc2];exact⟨rfl,by simp⟩
theorem iB {α:Type} {l:List α} {x:α} {most:Nat} {may:α→Bool} (h:bB (l++ [x]) most may=true):may x=true:=by
 unfold bB at h;simp only [Bool.and_eq_true,List.all_append,List.all_cons,List.all_nil]at h;exact h.2.2.1
theorem IF {a b:Bs} {x y:Int} (hx:dP a=some x) (hy:dP b=some y):fI [a,b]=some (x,y):=by simp [fI,hx,hy]
theorem FH {l:List Bs} {m:Int×Int} (h:fI l=some m):∃a b,l= [a,b]∧dP a=some m.1∧dP b=some m.2:=by
 match l,h with
 | [a,b],h=>
  simp only [fI]at h;split at h
  ·rename_i x y hx hy;cases h;exact⟨a,b,rfl,hx,hy⟩
  ·cases h
theorem Gj {l:List Bs} {m:Int×Int×Int} (h:iY l=some m):∃a b c,l= [a,b,c]∧dP a=some m.1∧dP b=some m.2.1∧dP c=some m.2.2:=by
 match l,h with
 | [a,b,c],h=>
  simp only [iY]at h;split at h
  ·rename_i x y z hx hy hz;cases h;exact⟨a,b,c,rfl,hx,hy,hz⟩
  ·cases h
theorem Il {l:List Bs} {t:Bs} (h:ud l=some t):∃a,l= [a]∧dM a=some t:=by
 match l,h with
 | [a],h=>exact⟨a,rfl,h⟩
theorem Ff {l:List Bs} {m:Int×Bs} (h:gF l=some m):∃a b,l= [a,b]∧dP a=some m.1∧dM b=some m.2:=by
 match l,h with
 | [a,b],h=>
  simp only [gF]at h;split at h
  ·rename_i x y hx hy;cases h;exact⟨a,b,rfl,hx,hy⟩
  ·cases h
theorem sD {w line:Bs} {l:List Bs} (hw:a_ 32 line=w::l):
  (∀m,fI l=some m→(bS (w::l) 1,bS (w::l) 2)=m∧cT [w,Lib.itoa (bS (w::l) 1),Lib.itoa (bS (w::l) 2)]=line)∧
  (0≤bS (w::l) 1→0≤bS (w::l) 2→cT [w,Lib.itoa (bS (w::l) 1),Lib.itoa (bS (w::l) 2)]=line→fI l=some (bS (w::l) 1,bS (w::l) 2)):=by
 have hline:line=cT (w::l):=by rw [←hw,gl]
 have hfree:=lQ 32 line;rw [hw]at hfree;constructor
 ·intro m hm;obtain⟨a,b,rfl,ha,hb⟩:=FH hm;rw [jv (l:=[w,a,b]) (i:=1) rfl ha,jv (l:=[w,a,b]) (i:=2) rfl hb,(dq ha).1,(dq hb).1];exact⟨rfl,hline.symm⟩
 ·intro h1 h2 he;obtain⟨a,ha,hna⟩:=gu h1;obtain⟨b,hb,hnb⟩:=gu h2;rw [(dq hna).1,(dq hnb).1]at he;have hc:=dw [w,a,b] (by simp) (by
   intro x hx;simp at hx;rcases hx with rfl |rfl |rfl
   ·exact hfree _ (by simp)
   ·exact hfree _ (List.mem_of_getElem? ha)
   ·exact hfree _ (List.mem_of_getElem? hb))
  rw [he,hw]at hc;cases hc;exact IF hna hnb
theorem wL {w line:Bs} {l:List Bs} (hw:a_ 32 line=w::l):
  (∀m,iY l=some m→(bS (w::l) 1,bS (w::l) 2,bS (w::l) 3)=m∧cT [w,Lib.itoa (bS (w::l) 1),Lib.itoa (bS (w::l) 2),Lib.itoa (bS (w::l) 3)]=line)∧
  (0≤bS (w::l) 1→0≤bS (w::l) 2→0≤bS (w::l) 3→cT [w,Lib.itoa (bS (w::l) 1),Lib.itoa (bS (w::l) 2),Lib.itoa (bS (w::l) 3)]=line→iY l=some (bS (w::l) 1,bS (w::l) 2,bS (w::l) 3)):=by
 have hline:line=cT (w::l):=by rw [←hw,gl]
 have hfree:=lQ 32 line;rw [hw]at hfree;constructor
 ·intro m hm;obtain⟨a,b,c,rfl,ha,hb,hc⟩:=Gj hm;rw [jv (l:=[w,a,b,c]) (i:=1) rfl ha,jv (l:=[w,a,b,c]) (i:=2) rfl hb,jv (l:=[w,a,b,c]) (i:=3) rfl hc,(dq ha).1,(dq hb).1,(dq hc).1];exact⟨rfl,hline.symm⟩
 ·intro h1 h2 h3 he;obtain⟨a,ha,hna⟩:=gu h1;obtain⟨b,hb,hnb⟩:=gu h2;obtain⟨c,hc,hnc⟩:=gu h3;rw [(dq hna).1,(dq hnb).1,(dq hnc).1]at he;have hcut:=dw [w,a,b,c] (by simp) (by
   intro x hx;simp at hx;rcases hx with rfl |rfl |rfl |rfl
   ·exact hfree _ (by simp)
   ·exact hfree _ (List.mem_of_getElem? ha)
   ·exact hfree _ (List.mem_of_getElem? hb)
   ·exact hfree _ (List.mem_of_getElem? hc))
  rw [he,hw]at hcut;cases hcut;simp [iY,hna,hnb,hnc]
theorem Fx {w line:Bs} {l:List Bs} (hw:a_ 32 line=w::l):
  (∀m,ud l=some m→fG (w::l) 1=m∧cT [w,jU (fG (w::l) 1)]=line)∧
  (fG (w::l) 1≠ []→cT [w,jU (fG (w::l) 1)]=line→ud l=some (fG (w::l) 1)):=by
 have hline:line=cT (w::l):=by rw [←hw,gl]
 have hfree:=lQ 32 line;rw [hw]at hfree;constructor
 ·intro m hm;obtain⟨a,rfl,ha⟩:=Il hm;rw [yv (l:=[w,a]) (i:=1) rfl ha,lW _ _ ha];exact⟨rfl,hline.symm⟩
 ·intro h1 he;obtain⟨a,ha,hna⟩:=sx h1;rw [lW _ _ hna]at he;have hcut:=dw [w,a] (by simp) (by
   intro x hx;simp at hx;rcases hx with rfl |rfl
   ·exact hfree _ (by simp)
   ·exact hfree _ (List.mem_of_getElem? ha))
  rw [he,hw]at hcut;cases hcut;exact hna
theorem Ea {w line:Bs} {l:List Bs} (hw:a_ 32 line=w::l):
  (∀m,gF l=some m→(bS (w::l) 1,fG (w::l) 2)=m∧cT [w,Lib.itoa (bS (w::l) 1),jU (fG (w::l) 2)]=line)∧
  (0≤bS (w::l) 1→fG (w::l) 2≠ []→cT [w,Lib.itoa (bS (w::l) 1),jU (fG (w::l) 2)]=line→gF l=some (bS (w::l) 1,fG (w::l) 2)):=by
 have hline:line=cT (w::l):=by rw [←hw,gl]
 have hfree:=lQ 32 line;rw [hw]at hfree;constructor
 ·intro m hm;obtain⟨a,b,rfl,ha,hb⟩:=Ff hm;rw [jv (l:=[w,a,b]) (i:=1) rfl ha,yv (l:=[w,a,b]) (i:=2) rfl hb,(dq ha).1,lW _ _ hb];exact⟨rfl,hline.symm⟩
 ·intro h1 h2 he;obtain⟨a,ha,hna⟩:=gu h1;obtain⟨b,hb,hnb⟩:=sx h2;rw [(dq hna).1,lW _ _ hnb]at he;have hcut:=dw [w,a,b] (by simp) (by
   intro x hx;simp at hx;rcases hx with rfl |rfl |rfl
   ·exact hfree _ (by simp)
   ·exact hfree _ (List.mem_of_getElem? ha)
   ·exact hfree _ (List.mem_of_getElem? hb))
  rw [he,hw]at hcut;cases hcut;simp [gF,hna,hnb]
theorem FB (k n:Nat):jg k n none=none:=rfl
theorem sI {k n j:Nat} {x:ak} (h:¬(n=0↔j=0)):jg k n (some (x,j))=none:=by
 simp only [jg];rw [if_neg (fun e=>h e.1)]
theorem fS {α:Type} {k n j:Nat} {o:Option α} {f:α→ak} (h:¬(n=0↔j=0)):jg k n (o.map fun m=>(f m,j))=none:=by
 cases o with
 |none=>rfl
 |some m=>exact sI h
theorem AD {line:Bs} {l:List Bs} (hw:a_ 32 line=fe::l):(l= [jP]↔line=iM true)∧(l= [gA]↔line=iM false):=by
 constructor
 ·constructor
  ·rintro rfl;rw [←gl line,hw];rfl
  ·rintro rfl;rw [lV]at hw;simp at hw;exact hw.symm
 ·constructor
  ·rintro rfl;rw [←gl line,hw];rfl
  ·rintro rfl;rw [lV]at hw;simp at hw;exact hw.symm
theorem pN:wMerge≠fe∧wToken≠fe∧wSpecial≠fe∧wClass≠fe∧wJoin≠fe∧wToken≠wMerge∧wSpecial≠wMerge∧wClass≠wMerge∧wJoin≠wMerge∧wSpecial≠wToken∧wClass≠wToken∧wJoin≠wToken∧wClass≠wSpecial∧wJoin≠wSpecial∧wJoin≠wClass:=by decide
theorem Dk (line:Bs):sd {} 0 line=(dn {} 0 0 line).map (·.1)∧∀y j,dn {} 0 0 line=some (y,j)→xY y j 1 [line]:=by
 cases hw:a_ 32 line with
 |nil=>exact absurd hw (hO 32 line)
 |cons w l=>
  have hh:(w::l).head?=some w:=rfl;have two:∀x:ak,x.lines.length≠1→(if x.right=true∧x.lines.length=0+1∧x.lines[0]? =some line then some x else none)=none:=by
   intro x hx;rw [if_neg (fun e=>hx e.2.1)]
  by_cases h1:w=fe
  ·subst h1;obtain⟨hr,hm⟩:=AD hw;unfold sd dn;rw [hw];simp only [kZ,hh,if_true,mn];by_cases hl:l= [jP]
   ·have hline:=hr.1 hl;rw [if_pos hl,decide_eq_true hline];have hg:jg 0 0 (some (({ranked:=true}:ak),0))=some ({ranked:=true},0):=by
     simp only [jg];rw [if_pos ⟨by simp,Nat.le_refl _,by decide⟩]
    rw [hg,if_pos ⟨by decide,rfl,by rw [hline];rfl⟩];refine⟨rfl,?_⟩;intro y j e;cases e;exact .inr ⟨by omega,by rw [hline];rfl,rfl,by decide,rfl⟩
   ·have hline:line≠iM true:=fun e=>hl (hr.2 e);rw [if_neg hl,decide_eq_false hline];by_cases hl2:l= [gA]
    ·have hline2:=hm.1 hl2;rw [if_pos hl2];have hg:jg 0 0 (some (({ranked:=false}:ak),0))=some ({ranked:=false},0):=by
      simp only [jg];rw [if_pos ⟨by simp,Nat.le_refl _,by decide⟩]
     rw [hg,if_pos ⟨by decide,rfl,by rw [hline2];rfl⟩];refine⟨rfl,?_⟩;intro y j e;cases e;exact .inr ⟨by omega,by rw [hline2];rfl,rfl,by decide,rfl⟩
    ·rw [if_neg hl2,FB,if_neg]
     ·exact⟨rfl,by simp⟩
     ·rintro⟨_,_,e⟩;apply hl2;rw [hm];have e:some (iM false)=some line:=e;exact(Option.some.inj e).symm
  ·have hread:dn {} 0 0 line=none:=by
    unfold dn;rw [hw];simp only [mn,if_neg h1];split
    ·exact fS (by omega)
    ·split
     ·exact fS (by omega)
     ·split
      ·exact fS (by omega)
      ·split
       ·exact fS (by omega)
       ·split
        ·exact fS (by omega)
        ·rfl
   rw [hread];refine⟨?_,by simp⟩;unfold sd;rw [hw];simp only [kZ,hh,Option.some.injEq,if_neg h1];split
   ·exact two _ (by simp [ak.lines,ak.tail])
   ·split
    ·exact two _ (by simp [ak.lines,ak.tail])
    ·split
     ·exact two _ (by simp [ak.lines,ak.tail])
     ·split
      ·exact two _ (by simp [ak.lines,ak.tail])
      ·split
       ·exact two _ (by simp [ak.lines,ak.tail])
       ·rw [if_neg]
        ·rfl
        ·rintro⟨_,_,e⟩;have e:some (iM false)=some line:=e;rw [←Option.some.inj e,lV]at hw;cases hw;exact h1 rfl
theorem lX {s:ak} {w:Bs} (p:Bs):(p∈s.tokens.map gp→w≠wToken→(a_ 32 p).head?≠some w)∧(p∈s.specials.map dQ→w≠wSpecial→(a_ 32 p).head?≠some w)∧
  (p∈s.classes.map ir→w≠wClass→(a_ 32 p).head?≠some w)∧(p∈s.joins.map ny→w≠wJoin→(a_ 32 p).head?≠some w):=by
 refine⟨?_,?_,?_,?_⟩
 ·intro h hw e;obtain⟨x,_,rfl⟩:=List.mem_map.1 h;rw [tF]at e;exact hw (Option.some.inj e).symm
 ·intro h hw e;obtain⟨x,_,rfl⟩:=List.mem_map.1 h;rw [oE]at e;exact hw (Option.some.inj e).symm
 ·intro h hw e;obtain⟨x,_,rfl⟩:=List.mem_map.1 h;rw [ri]at e;exact hw (Option.some.inj e).symm
 ·intro h hw e;obtain⟨x,_,rfl⟩:=List.mem_map.1 h;rw [uW]at e;exact hw (Option.some.inj e).symm
theorem D0 {s:ak} {k n:Nat} {done:List Bs} (line:Bs) (hn:0<n) (hd:s.lines=done) (hlen:done.length=n) (hk:k=gm s):
  sd s n line=(dn s k n line).map (·.1)∧∀y j,dn s k n line=some (y,j)→xY y j (n+1) (done++ [line]):=by
 have hsn:s.lines.length=n:=by rw [hd,hlen]
 cases hw:a_ 32 line with
 |nil=>exact absurd hw (hO 32 line)
 |cons w l=>
  have hh:(a_ 32 line).head?=some w:=by rw [hw];rfl
  have hh':(w::l).head?=some w:=rfl;obtain⟨n1,n2,n3,n4,n5,n6,n7,n8,n9,n10,n11,n12,n13,n14,n15⟩:=pN;have same:∀x:ak,x.lines.length=n→(if x.right=true∧x.lines.length=n+1∧x.lines[n]? =some line then some x else none)=none:=by
   intro x hx;rw [if_neg (fun e=>by omega)]
  unfold sd dn;rw [hw];by_cases h1:w=fe
  ·subst h1;simp only [kZ,hh',if_true,mn];have hread:jg k n (if l= [jP]then some ({s with ranked:=true},0)else if l= [gA]then some ({s with ranked:=false},0)else none)=none:=by
    split
    ·exact sI (by omega)
    ·split
     ·exact sI (by omega)
     ·rfl
   rw [hread,same _ (by rw [←hsn];rfl)];exact⟨rfl,by simp⟩
  ·simp only [kZ,hh',Option.some.injEq,mn,if_neg h1];by_cases h2:w=wMerge
   ·subst h2;simp only [if_true];obtain⟨hp1,hp2⟩:=sD hw;refine jJ (j:=1) (pre:=iM s.ranked::s.merges.map gS) (post:=s.tokens.map gp++(s.specials.map dQ++(s.classes.map ir++s.joins.map ny))) (lk:=gS (bS (wMerge::l) 1,bS (wMerge::l) 2)) _ hd rfl hsn (by omega) (by simp [ak.lines,ak.tail]) hh ?_ (by decide) ?_ ?_ ?_ ?_
    ·intro p hp;obtain⟨g1,g2,g3,g4⟩:=lX (s:=s) (w:=wMerge) p;simp only [List.mem_append]at hp;rcases hp with hp |hp |hp |hp
     ·exact g1 hp n6.symm
     ·exact g2 hp n7.symm
     ·exact g3 hp n8.symm
     ·exact g4 hp n9.symm
    ·intro hr;have hra:=(cP hr).1;have hnr:s.ranked=false:=by
      cases h:s.ranked
      ·rfl
      ·rw [if_pos (by simpa using h)]at hra;simp at hra
     have htok:s.tokens= []:=by simpa [hnr]using hra
     rw [hk,htok];unfold gm;constructor
     ·intro h;split at h
      ·omega
      ·split at h
       ·omega
       ·split at h
        ·omega
        ·rename_i a b c;simp at a b c;simp [a,b,c]
     ·intro h;simp at h;obtain⟨a,b,c⟩:=h;simp only [a,b,c,ne_eq,not_true_eq_false,if_false];split<;>omega
    ·intro hr hp;simp at hp;obtain⟨a,b,c,d⟩:=hp;simp [gm,a,b,c,d]
    ·intro y hy;obtain⟨m,hm,rfl⟩:=Option.map_eq_some_iff.1 hy;obtain⟨e1,e2⟩:=hp1 m hm;exact⟨by rw [e1],e2⟩
    ·intro hr he;have hmo:=iB (cP hr).2.1;simp only [dN,decide_eq_true_eq]at hmo;rw [hp2 hmo.1 hmo.2.2.1 he];rfl
   ·simp only [if_neg h2];by_cases h3:w=wToken
    ·subst h3;simp only [if_true];obtain⟨hp1,hp2⟩:=Fx hw;refine jJ (j:=1) (pre:=iM s.ranked::(s.merges.map gS++s.tokens.map gp)) (post:=s.specials.map dQ++(s.classes.map ir++s.joins.map ny)) (lk:=gp (fG (wToken::l) 1)) _ hd (by simp [ak.lines,ak.tail]) hsn (by omega) (by simp [ak.lines,ak.tail]) hh ?_ (by decide) ?_ ?_ ?_ ?_
     ·intro p hp;obtain⟨g1,g2,g3,g4⟩:=lX (s:=s) (w:=wToken) p;simp only [List.mem_append]at hp;rcases hp with hp |hp |hp
      ·exact g2 hp n10.symm
      ·exact g3 hp n11.symm
      ·exact g4 hp n12.symm
     ·intro hr;rw [hk];unfold gm;constructor
      ·intro h;split at h
       ·omega
       ·split at h
        ·omega
        ·split at h
         ·omega
         ·rename_i a b c;simp at a b c;simp [a,b,c]
      ·intro h;simp at h;obtain⟨a,b,c⟩:=h;simp only [a,b,c,ne_eq,not_true_eq_false,if_false];split<;>omega
     ·intro hr hp;simp at hp;obtain⟨a,b,c⟩:=hp;simp [gm,a,b,c]
     ·intro y hy;obtain⟨m,hm,rfl⟩:=Option.map_eq_some_iff.1 hy;obtain⟨e1,e2⟩:=hp1 m hm;exact⟨by rw [e1],e2⟩
     ·intro hr he;have hmo:=iB (cP hr).2.2.1;simp only [eX,decide_eq_true_eq]at hmo;rw [hp2 (by intro e;rw [e]at hmo;simp at hmo) he];rfl
    ·simp only [if_neg h3];by_cases h4:w=wSpecial
     ·subst h4;simp only [if_true];obtain⟨hp1,hp2⟩:=Ea hw;refine jJ (j:=2) (pre:=iM s.ranked::(s.merges.map gS++(s.tokens.map gp++s.specials.map dQ))) (post:=s.classes.map ir++s.joins.map ny) (lk:=dQ (bS (wSpecial::l) 1,fG (wSpecial::l) 2)) _ hd (by simp [ak.lines,ak.tail]) hsn (by omega) (by simp [ak.lines,ak.tail]) hh ?_ (by decide) ?_ ?_ ?_ ?_
      ·intro p hp;obtain⟨g1,g2,g3,g4⟩:=lX (s:=s) (w:=wSpecial) p;simp only [List.mem_append]at hp;rcases hp with hp |hp
       ·exact g3 hp n13.symm
       ·exact g4 hp n14.symm
      ·intro hr;rw [hk];unfold gm;constructor
       ·intro h;split at h
        ·omega
        ·split at h
         ·omega
         ·rename_i a b;simp at a b;simp [a,b]
       ·intro h;simp at h;obtain⟨a,b⟩:=h;simp only [a,b,ne_eq,not_true_eq_false,if_false];split
        ·omega
        ·split<;>omega
      ·intro hr hp;simp at hp;obtain⟨a,b⟩:=hp;simp [gm,a,b]
      ·intro y hy;obtain⟨m,hm,rfl⟩:=Option.map_eq_some_iff.1 hy;obtain⟨e1,e2⟩:=hp1 m hm;exact⟨by rw [e1],e2⟩
      ·intro hr he;have hmo:=iB (cP hr).2.2.2.1;simp only [bc,decide_eq_true_eq]at hmo;rw [hp2 hmo.1 (by intro e;rw [e]at hmo;simp at hmo) he];rfl
     ·simp only [if_neg h4];by_cases h5:w=wClass
      ·subst h5;simp only [if_true];obtain⟨hp1,hp2⟩:=wL hw;refine jJ (j:=3) (pre:=iM s.ranked::(s.merges.map gS++(s.tokens.map gp++(s.specials.map dQ++s.classes.map ir)))) (post:=s.joins.map ny) (lk:=ir (bS (wClass::l) 1,bS (wClass::l) 2,bS (wClass::l) 3)) _ hd (by simp [ak.lines,ak.tail]) hsn (by omega) (by simp [ak.lines,ak.tail]) hh ?_ (by decide) ?_ ?_ ?_ ?_
       ·intro p hp;obtain⟨g1,g2,g3,g4⟩:=lX (s:=s) (w:=wClass) p;exact g4 hp n15.symm
       ·intro hr;rw [hk];unfold gm;constructor
        ·intro h;split at h
         ·omega
         ·rename_i a;simp at a;simp [a]
        ·intro h;simp at h;simp only [h,ne_eq,not_true_eq_false,if_false];split
         ·omega
         ·split
          ·omega
          ·split<;>omega
       ·intro hr hp;simp at hp;simp [gm,hp]
       ·intro y hy;obtain⟨m,hm,rfl⟩:=Option.map_eq_some_iff.1 hy;obtain⟨e1,e2⟩:=hp1 m hm;exact⟨by rw [e1],e2⟩
       ·intro hr he;have hmo:=iB (cP hr).2.2.2.2.1;simp only [aQ,decide_eq_true_eq]at hmo;rw [hp2 hmo.1 (by omega) hmo.2.2.2.1 he];rfl
      ·simp only [if_neg h5];by_cases h6:w=wJoin
       ·subst h6;simp only [if_true];obtain⟨hp1,hp2⟩:=sD hw;refine jJ (j:=4) (pre:=s.lines) (post:=[]) (lk:=ny (bS (wJoin::l) 1,bS (wJoin::l) 2)) _ hd (by simp) hsn (by omega) (by simp [ak.lines,ak.tail]) hh (by simp) (by decide) ?_ ?_ ?_ ?_
        ·intro hr;rw [hk];unfold gm;constructor
         ·intro _;rfl
         ·intro _;split
          ·omega
          ·split
           ·omega
           ·split
            ·omega
            ·split<;>omega
        ·intro hr hp;simp [gm]
        ·intro y hy;obtain⟨m,hm,rfl⟩:=Option.map_eq_some_iff.1 hy;obtain⟨e1,e2⟩:=hp1 m hm;exact⟨by rw [e1],e2⟩
        ·intro hr he;have hmo:=iB (cP hr).2.2.2.2.2;simp only [cr,decide_eq_true_eq]at hmo;rw [hp2 hmo.1 hmo.2.2.1 he];rfl
       ·simp only [if_neg h6];rw [same s hsn];exact⟨rfl,by simp [jg]⟩
theorem Ji {s:ak} {k n:Nat} {done:List Bs} (h:xY s k n done) (line:Bs):sd s n line=(dn s k n line).map (·.1)∧∀y j,dn s k n line=some (y,j)→xY y j (n+1) (done++ [line]):=by
 rcases h with⟨rfl,rfl,rfl,rfl⟩ |⟨hn,hd,hl,_,hk⟩
 ·exact Dk line
 ·exact D0 line hn hd hl hk
theorem H6:∀(ls:List Bs) {s:ak} {k n:Nat} {done:List Bs},xY s k n done→
  (match dj s k n ls with | .ok x=>Except.ok x.1 | .error m=>.error m)=CH s n ls∧∀y j,dj s k n ls= .ok (y,j)→xY y j (n+ls.length) (done++ls)
 | [],s,k,n,done,h=>⟨rfl,fun y j e=>by cases e;simpa using h⟩
 |l::r,s,k,n,done,h=>by
  obtain⟨h1,h2⟩:=Ji h l;simp only [dj,CH];cases hr:dn s k n l with
  |none=>
   rw [hr]at h1;rw [h1];exact⟨rfl,by simp⟩
  |some y=>
   obtain⟨y,j⟩:=y;rw [hr]at h1;rw [h1];obtain⟨g1,g2⟩:=H6 r (h2 y j hr);refine⟨g1,?_⟩;intro z q e;have:=g2 z q e;rw [List.length_cons,show n+(r.length+1)=n+1+r.length by omega];simpa using this
theorem Dh:xY {} 0 0 []:=.inl ⟨rfl,rfl,rfl,rfl⟩
theorem ez:∀(a b:List Bs) (s:ak) (k n:Nat),dj s k n (a++b)=match dj s k n a with | .ok x=>dj x.1 x.2 (n+a.length) b | .error m=>.error m
 | [],b,s,k,n=>rfl
 |l::a,b,s,k,n=>by
  simp only [List.cons_append,dj];cases dn s k n l with
  |none=>rfl
  |some y=>
   obtain⟨y,j⟩:=y;simp only [];rw [ez a b y j (n+1),List.length_cons,show n+(a.length+1)=n+1+a.length by omega]
theorem fN {α:Type} {a b:List α} {most:Nat} {may:α→Bool} (h:bB (a++b) most may=true):bB a most may=true:=by
 unfold bB at h⊢;simp only [Bool.and_eq_true,decide_eq_true_eq,List.all_append,List.length_append]at h⊢;exact⟨by omega,h.2.1⟩
theorem lj {s:ak} (h1:(if s.ranked then s.merges.isEmpty else s.tokens.isEmpty)=true) (h2:bB s.merges 744 dN=true) (h3:bB s.tokens 744 eX=true) (h4:bB s.specials 32 bc=true) (h5:bB s.classes 64 aQ=true) (h6:bB s.joins 64 cr=true):s.right=true:=by
 unfold ak.right;rw [h1,h2,h3,h4,h5,h6];rfl
theorem sk {m:Int×Int} (h1:0≤m.1) (h2:m.1≤d_) (h3:0≤m.2) (h4:m.2≤d_):fI [Lib.itoa m.1,Lib.itoa m.2]=some m:=by
 obtain⟨a,ha⟩:=Int.eq_ofNat_of_zero_le h1;obtain⟨b,hb⟩:=Int.eq_ofNat_of_zero_le h3;have e1:dP (Lib.itoa m.1)=some m.1:=by rw [ha];exact ig a (by rw [←ha];exact h2)
 have e2:dP (Lib.itoa m.2)=some m.2:=by rw [hb];exact ig b (by rw [←hb];exact h4)
 simp [fI,e1,e2]
theorem CZ {m:Int×Int×Int} (h1:0≤m.1) (h2:m.1≤d_) (h3:0≤m.2.1) (h4:m.2.1≤d_) (h5:0≤m.2.2) (h6:m.2.2≤d_):iY [Lib.itoa m.1,Lib.itoa m.2.1,Lib.itoa m.2.2]=some m:=by
 obtain⟨a,ha⟩:=Int.eq_ofNat_of_zero_le h1;obtain⟨b,hb⟩:=Int.eq_ofNat_of_zero_le h3;obtain⟨c,hc⟩:=Int.eq_ofNat_of_zero_le h5;have e1:dP (Lib.itoa m.1)=some m.1:=by rw [ha];exact ig a (by rw [←ha];exact h2)
 have e2:dP (Lib.itoa m.2.1)=some m.2.1:=by rw [hb];exact ig b (by rw [←hb];exact h4)
 have e3:dP (Lib.itoa m.2.2)=some m.2.2:=by rw [hc];exact ig c (by rw [←hc];exact h6)
 simp [iY,e1,e2,e3]
theorem Cu {m:Int×Bs} (h1:0≤m.1) (h2:m.1≤d_):gF [Lib.itoa m.1,jU m.2]=some m:=by
 obtain⟨a,ha⟩:=Int.eq_ofNat_of_zero_le h1;have e1:dP (Lib.itoa m.1)=some m.1:=by rw [ha];exact ig a (by rw [←ha];exact h2)
 simp [gF,e1,vd]
theorem uK {α:Type} (put:ak→α→ak) (lineK:α→Bs) (j:Nat) (hj:j≠0):∀(ms:List α) (s:ak) (k n:Nat),n≠0→k≤j→
  (∀i,i<ms.length→((ms.take (i+1)).foldl put s).right=true)→(∀m∈ms,∀s,mn s (a_ 32 (lineK m))=some (put s m,j))→
  dj s k n (ms.map lineK)= .ok (ms.foldl put s,if ms= []then k else j)
 | [],s,k,n,_,_,_,_=>rfl
 |m::ms,s,k,n,hn,hk,hr,ha=>by
  simp only [List.map_cons,dj];have hr0:(put s m).right=true:=by simpa using hr 0 (by simp)
  have hl:dn s k n (lineK m)=some (put s m,j):=by
   unfold dn;rw [ha m (by simp) s];simp only [jg];rw [if_pos ⟨by constructor<;>intro e<;>omega,hk,hr0⟩]
  rw [hl];simp only [];rw [uK put lineK j hj ms (put s m) j (n+1) (by omega) (Nat.le_refl _) (fun i hi=>by simpa using hr (i+1) (by simpa using hi)) (fun x hx=>ha x (by simp [hx]))];simp
theorem lD:∀(ms:List (Int×Int)) (s:ak),ms.foldl (fun(s:ak) m=>{s with merges:=s.merges++ [m]}) s= {s with merges:=s.merges++ms}
 | [],s=>by simp
 |m::ms,s=>by rw [List.foldl_cons,lD ms];simp
theorem kU:∀(ms:List Bs) (s:ak),ms.foldl (fun(s:ak) m=>{s with tokens:=s.tokens++ [m]}) s= {s with tokens:=s.tokens++ms}
 | [],s=>by simp
 |m::ms,s=>by rw [List.foldl_cons,kU ms];simp
theorem ji:∀(ms:List (Int×Bs)) (s:ak),ms.foldl (fun(s:ak) m=>{s with specials:=s.specials++ [m]}) s= {s with specials:=s.specials++ms}
 | [],s=>by simp
 |m::ms,s=>by rw [List.foldl_cons,ji ms];simp
theorem kg:∀(ms:List (Int×Int×Int)) (s:ak),ms.foldl (fun(s:ak) m=>{s with classes:=s.classes++ [m]}) s= {s with classes:=s.classes++ms}
 | [],s=>by simp
 |m::ms,s=>by rw [List.foldl_cons,kg ms];simp
theorem ng:∀(ms:List (Int×Int)) (s:ak),ms.foldl (fun(s:ak) m=>{s with joins:=s.joins++ [m]}) s= {s with joins:=s.joins++ms}
 | [],s=>by simp
 |m::ms,s=>by rw [List.foldl_cons,ng ms];simp
theorem iA {α:Type} (l:List α) (i:Nat):∃r,l=l.take i++r:=⟨l.drop i,(List.take_append_drop i l).symm⟩
theorem qF {α:Type} {l:List α} {most:Nat} {may:α→Bool} (h:bB l most may=true) {x:α} (hx:x∈l):may x=true:=by
 unfold bB at h;simp only [Bool.and_eq_true,List.all_eq_true]at h;exact h.2 x hx
theorem dU {α:Type} (most:Nat) (may:α→Bool):bB [] most may=true:=by simp [bB]
theorem Dn (s:ak) (h:s.right=true):∃k,dj {} 0 0 s.lines= .ok (s,k):=by
 obtain⟨h1,h2,h3,h4,h5,h6⟩:=cP h;have w1:=fun(m:Int×Int) (hm:m∈s.merges)=>qF h2 hm;have w3:=fun(m:Int×Bs) (hm:m∈s.specials)=>qF h4 hm;have w4:=fun(m:Int×Int×Int) (hm:m∈s.classes)=>qF h5 hm;have w5:=fun(m:Int×Int) (hm:m∈s.joins)=>qF h6 hm;obtain⟨k1,n1,n2,n3,n4,n5,m1,m2,m3,m4,o1,o2,o3,q1,q2⟩:=pN;have hhead:dn {} 0 0 (iM s.ranked)=some ({ranked:=s.ranked},0):=by
  unfold dn;rw [lV];cases s.ranked<;>rfl
 simp only [ak.lines,dj,hhead,ak.tail];have g1:=uK (fun(s:ak) m=>{s with merges:=s.merges++ [m]}) gS 1 (by decide) s.merges {ranked:=s.ranked} 0 1 (by decide) (by decide)
  (fun i hi=>by
   rw [lD];obtain⟨r,hr⟩:=iA s.merges (i+1);refine lj ?_ (by rw [hr]at h2;simpa using fN h2) (dU _ _) (dU _ _) (dU _ _) (dU _ _);cases hrk:s.ranked
   ·rfl
   ·rw [hrk]at h1;simp at h1;rw [h1]at hi;simp at hi)
  (fun m hm s'=>by
   have hmo:=w1 m hm;simp only [dN,decide_eq_true_eq]at hmo;rw [Eu];simp only [mn,if_neg k1,if_true,sk hmo.1 (show m.1≤d_ by unfold d_;omega) hmo.2.2.1 (show m.2≤d_ by unfold d_;omega)];rfl)
 rw [lD]at g1;rw [ez,g1];simp only [List.nil_append];have e1:∀(α:Type) (l:List α),(if l= []then(0:Nat)else 1)≤1:=by intro α l;split<;>omega
 generalize hkA:(if s.merges= []then(0:Nat)else 1)=kA;have hA:kA≤1:=by rw [←hkA];split<;>omega
 have g2:=uK (fun(s:ak) m=>{s with tokens:=s.tokens++ [m]}) gp 1 (by decide) s.tokens {ranked:=s.ranked,merges:=s.merges} kA (1+(s.merges.map gS).length) (by omega) hA
  (fun i hi=>by
   rw [kU];obtain⟨r,hr⟩:=iA s.tokens (i+1);refine lj ?_ h2 (by rw [hr]at h3;simpa using fN h3) (dU _ _) (dU _ _) (dU _ _);cases hrk:s.ranked
   ·rw [hrk]at h1;simp at h1;rw [h1]at hi;simp at hi
   ·rw [hrk]at h1;simpa using h1)
  (fun m hm s'=>by
   rw [tF];simp only [mn,if_neg n1,if_neg n5,if_true,ud,vd];rfl)
 rw [kU]at g2;rw [ez,g2];simp only [List.nil_append];generalize hkB:(if s.tokens= []then kA else 1)=kB;have hB:kB≤2:=by rw [←hkB];split<;>omega
 have hr0:(if s.ranked=true then s.merges.isEmpty else s.tokens.isEmpty)=true:=h1;have g3:=uK (fun(s:ak) m=>{s with specials:=s.specials++ [m]}) dQ 2 (by decide) s.specials {ranked:=s.ranked,merges:=s.merges,tokens:=s.tokens} kB (1+(s.merges.map gS).length+(s.tokens.map gp).length) (by omega) hB
  (fun i hi=>by
   rw [ji];obtain⟨r,hr⟩:=iA s.specials (i+1);exact lj hr0 h2 h3 (by rw [hr]at h4;simpa using fN h4) (dU _ _) (dU _ _))
  (fun m hm s'=>by
   have hmo:=w3 m hm;simp only [bc,decide_eq_true_eq]at hmo;rw [oE];simp only [mn,if_neg n2,if_neg m1,if_neg m4,if_true,Cu (m:=m) hmo.1 hmo.2.1];rfl)
 rw [ji]at g3;rw [ez,g3];simp only [List.nil_append];generalize hkC:(if s.specials= []then kB else 2)=kC;have hC:kC≤3:=by rw [←hkC];split<;>omega
 have g4:=uK (fun(s:ak) m=>{s with classes:=s.classes++ [m]}) ir 3 (by decide) s.classes {ranked:=s.ranked,merges:=s.merges,tokens:=s.tokens,specials:=s.specials} kC (1+(s.merges.map gS).length+(s.tokens.map gp).length+(s.specials.map dQ).length) (by omega) hC
  (fun i hi=>by
   rw [kg];obtain⟨r,hr⟩:=iA s.classes (i+1);exact lj hr0 h2 h3 h4 (by rw [hr]at h5;simpa using fN h5) (dU _ _))
  (fun m hm s'=>by
   have hmo:=w4 m hm;simp only [aQ,decide_eq_true_eq]at hmo;rw [ri];simp only [mn,if_neg n3,if_neg m2,if_neg o1,if_neg o3,if_true,CZ (m:=m) hmo.1 (by unfold d_;omega) (by omega) (by unfold d_;omega) hmo.2.2.2.1 (by unfold d_;omega)];rfl)
 rw [kg]at g4;rw [ez,g4];simp only [List.nil_append];generalize hkD:(if s.classes= []then kC else 3)=kD;have hD:kD≤4:=by rw [←hkD];split<;>omega
 have g5:=uK (fun(s:ak) m=>{s with joins:=s.joins++ [m]}) ny 4 (by decide) s.joins {ranked:=s.ranked,merges:=s.merges,tokens:=s.tokens,specials:=s.specials,classes:=s.classes} kD (1+(s.merges.map gS).length+(s.tokens.map gp).length+(s.specials.map dQ).length+(s.classes.map ir).length) (by omega) hD
  (fun i hi=>by
   rw [ng];obtain⟨r,hr⟩:=iA s.joins (i+1);exact lj hr0 h2 h3 h4 h5 (by rw [hr]at h6;simpa using fN h6))
  (fun m hm s'=>by
   have hmo:=w5 m hm;simp only [cr,decide_eq_true_eq]at hmo;rw [uW];simp only [mn,if_neg n4,if_neg m3,if_neg o2,if_neg q1,if_neg q2,if_true,sk (m:=m) hmo.1 (by unfold d_;omega) hmo.2.2.1 (by unfold d_;omega)];rfl)
 rw [ng]at g5;exact⟨_,g5⟩
theorem Eg (s:ak):∀l∈s.lines,10∉l:=by
 have join_free:∀ws:List Bs,(∀w∈ws,10∉w)→10∉cT ws:=by
  intro ws;induction ws with
  |nil=>intro _;simp [cT,Lib.join_nil]
  |cons w r ih=>
   intro h;cases r with
   |nil=>rw [nj];exact h w (by simp)
   |cons x r=>
    rw [iV];simp only [List.mem_append,List.mem_cons,not_or];exact⟨h w (by simp),by decide,ih fun y hy=>h y (by simp [hy])⟩
 intro l hl;simp only [ak.lines,ak.tail,List.mem_cons,List.mem_append,List.mem_map]at hl;rcases hl with rfl |⟨m,_,rfl⟩ |⟨m,_,rfl⟩ |⟨m,_,rfl⟩ |⟨m,_,rfl⟩ |⟨m,_,rfl⟩
 ·cases s.ranked<;>decide+kernel
 ·exact join_free _ (by intro w hw;simp at hw;rcases hw with rfl |rfl |rfl<;>first |decide |exact(dX _).2)
 ·exact join_free _ (by intro w hw;simp at hw;rcases hw with rfl |rfl<;>first |decide |exact(fu _).2)
 ·exact join_free _ (by intro w hw;simp at hw;rcases hw with rfl |rfl |rfl<;>first |decide |exact(dX _).2 |exact(fu _).2)
 ·exact join_free _ (by intro w hw;simp at hw;rcases hw with rfl |rfl |rfl |rfl<;>first |decide |exact(dX _).2)
 ·exact join_free _ (by intro w hw;simp at hw;rcases hw with rfl |rfl |rfl<;>first |decide |exact(dX _).2)
theorem DV (s:ak) (h:s.right=true):eN s.text= .ok s:=by
 obtain⟨k,hk⟩:=Dn s h;unfold eN ak.text;rw [DL _ (Eg s),List.dropLast_concat,hk];simp only [];rw [if_pos ⟨by simp,by simp [ak.lines]⟩]
theorem Cg (t:Bs) (s:ak) (h:eN t= .ok s):s.text=t∧s.right=true:=by
 unfold eN at h;cases hr:dj {} 0 0 (a_ 10 t).dropLast with
 |error m=>rw [hr]at h;cases h
 |ok x=>
  obtain⟨y,j⟩:=x;rw [hr]at h;simp only []at h;split at h
  ·rename_i hc;cases h;have:=(H6 (a_ 10 t).dropLast Dh).2 _ _ hr;rcases this with⟨e,_⟩ |⟨_,hl,_,hright,_⟩
   ·have:(a_ 10 t).dropLast= []:=List.eq_nil_of_length_eq_zero (by omega);exact absurd this hc.2
   ·refine⟨?_,hright⟩;unfold ak.text;rw [hl];exact Cl t hc.1
  ·cases h
theorem E9 (l:List UInt8):((str l).toList==(⟨#[]⟩:ByteArray).toList)=decide (l= []):=by
 rw [show(⟨#[]⟩:ByteArray)=str []from rfl,cu,cu];cases l<;>simp
theorem ni:∀n:Fin 256,Lib.indexByte Hm (UInt8.ofNat n.val)=match uS (UInt8.ofNat n.val)with |some k=>(k:Int) |none=> -1:=by decide+kernel
theorem sF (b:UInt8):Lib.indexByte Hm b=match uS b with |some k=>(k:Int) |none=> -1:=
 G5 (p:=fun b=>Lib.indexByte Hm b=match uS b with |some k=>(k:Int) |none=> -1) ni b
theorem Jr (b:UInt8):((b.toNat:Int)).toNat.toUInt8=b:=by simp
theorem td (b:UInt8) (w:World):
  CP 295 #[.int .u8 b.toNat] w fun e w'=>e= .returned (.int .i64 (match uS b with |some k=>(k:Int) |none=> -1))∧w'=w:=by
 refine aN (yG b.toNat w) ?_;refine(Tryz.strings_IndexByte _ _ w).mono ?_;rintro e w' ⟨rfl,rfl⟩;rw [Jr];exact⟨_,rfl,by rw [show(ByteArray.mk #[48,49,50,51,52,53,54,55,56,57,97,98,99,100,101,102]).data.toList=Hm from rfl,sF],rfl⟩
def PC:Option (List UInt8)→Value
 |some r=>.tuple #[.string (str r),.bool true]
 |none=>.tuple #[.string (str []),.bool false]
theorem eG (a b:List UInt8):((str a).toList==(str b).toList)=decide (a=b):=by
 rw [cu,cu];by_cases h:a=b
 ·subst h;simp
 ·simp [h]
theorem D1 (l acc:List UInt8) (i:Nat) (h:i+1<l.length) (hp:pairs l=(pairs (l.drop i)).map (acc++ ·)) (x y:Nat) (hx:uS l[i]=some x) (hy:uS l[i+1]=some y):
  pairs l=(pairs (l.drop (i+2))).map ((acc++ [UInt8.ofNat (16*x+y)])++ ·):=by
 rw [hp,List.drop_eq_getElem_cons (show i<l.length by omega),List.drop_eq_getElem_cons (show i+1<l.length by omega)];simp only [pairs,hx,hy];cases pairs (l.drop (i+1+1))with
 |none=>rfl
 |some r=>simp
theorem ul (l acc:List UInt8) (i:Nat) (h:i+1<l.length) (hp:pairs l=(pairs (l.drop i)).map (acc++ ·)) (hb:uS l[i]=none∨uS l[i+1]=none):pairs l=none:=by
 rw [hp,List.drop_eq_getElem_cons (show i<l.length by omega),List.drop_eq_getElem_cons (show i+1<l.length by omega)];rcases hb with hb |hb
 ·simp [pairs,hb]
 ·simp only [pairs,hb];cases uS l[i]<;>rfl
theorem DN (l acc:List UInt8) (i:Nat) (h:l.length≤i) (hp:pairs l=(pairs (l.drop i)).map (acc++ ·)):pairs l=some acc:=by
 rw [hp,List.drop_eq_nil_of_le h];simp [pairs]
theorem Eh (n:Nat):∀l:List UInt8,l.length≤n→∀r,pairs l=some r→l.length=2*r.length:=by
 induction n with
 |zero=>
  intro l hl r h;cases l with
  |nil=>simp [pairs]at h;subst h;rfl
  |cons a l=>simp at hl
 |succ n ih=>
  intro l hl r h
  match l,hl,h with
  | [],_,h=>simp [pairs]at h;subst h;rfl
  | [_],_,h=>simp [pairs]at h
  |a::b::l,hl,h=>
   simp only [pairs]at h;split at h
   ·rename_i x y r' _ _ hr;cases h;have:=ih l (by simp at hl;omega) _ hr;simp;omega
   ·cases h
theorem vF (l:List UInt8) (h1:l≠ [45]) (h2:l≠ []):dM l=pairs l:=by
 unfold dM;rw [if_neg h1,if_neg h2]
theorem JY (x y:Nat) (hx:x<16) (hy:y<16):IntKind.wrap .u8 ((x:Int)*16+y)=((UInt8.ofNat (16*x+y)).toNat:Int):=by
 rw [di (k:=.u8) (by simp [IntKind.min,IntKind.signed];omega) (by simp [IntKind.max,IntKind.signed,IntKind.bits];omega)];have:(UInt8.ofNat (16*x+y)).toNat=16*x+y:=by simp;omega
 omega
theorem rD (l:List UInt8) (w:World) (hl:l.length≤2000000):
  CP 269 #[.string (str l)] w fun e w'=>e= .returned (PC (dM l))∧Below w.heap.size w w':=by
 refine aN (BE (str l) w) ?_;refine ac.mk ?_ ?_
 ·intro h;rw [show(⟨#[45]⟩:ByteArray)=str [45]from rfl,eG]at h;have h:=of_decide_eq_true h;subst h;exact⟨rfl,Below.refl _ _⟩
 ·intro h1;rw [show(⟨#[45]⟩:ByteArray)=str [45]from rfl,eG]at h1;have h1:=of_decide_eq_false h1;refine ac.mk ?_ ?_
  ·intro h;rw [E9]at h;have h:=of_decide_eq_true h;subst h;exact⟨rfl,Below.refl _ _⟩
  ·intro h2;rw [E9]at h2;have h2:=of_decide_eq_false h2;have hu:=vF l h1 h2;rw [hu];refine⟨by decide,?_⟩;rw [aR,show Int.tmod (l.length:Int) 2=((l.length%2:Nat):Int)from rfl,show Int.tdiv (l.length:Int) 2=((l.length/2:Nat):Int)from rfl];refine ac.mk ?_ ?_
   ·intro h3;have h3:l.length%2≠0:=by
     intro e;rw [e]at h3;simp at h3
    refine⟨?_,Below.refl _ _⟩;cases hp:pairs l with
    |none=>rfl
    |some r=>have:=Eh l.length l (Nat.le_refl _) r hp;omega
   ·intro h3;have h3:l.length%2=0:=by
     rcases Nat.mod_two_eq_zero_or_one l.length with e |e
     ·exact e
     ·rw [e]at h3;simp at h3
    refine⟨by decide,?_⟩;rw [di (k:=.i64) (by simp [IntKind.min,IntKind.signed,IntKind.bits];omega) (by simp [IntKind.max,IntKind.signed,IntKind.bits];omega)];obtain⟨i,hi',hz,hs,hb⟩:=info_parts Cr;obtain⟨w1,hr,hown,hg⟩:=run_make_own (P:=Tryz.prog) w w.heap.size kV vg i _ 1 jq hi' hz hs .i64 .i64 (l.length/2) (by rw [hb];omega) (by simp [maxLen];omega) (Nat.le_refl _);refine⟨_,_,_,w1,hr,?_⟩;intro I hI;have key:=qd (α:=Option Addr×Nat×Nat×Bool×ByteArray×World) (l.length/2)
     (fun k x=>∃acc,pairs l=(pairs (l.drop (2*k))).map (acc++ ·)∧acc.length≤k∧x.2.2.2.2.2.ownsRow w.heap.size vg 1 (.slice x.1 x.2.1 x.2.2.1) x.2.1 (Lib.byteCells acc)∧Below w.heap.size w x.2.2.2.2.2)
     (fun k x=>I [.int .i64 ((2*k:Nat):Int),.slice x.1 x.2.1 x.2.2.1,.bool x.2.2.2.1,.string x.2.2.2.2.1] x.2.2.2.2.2) ?_ ?_ 0 (Nat.zero_le _) (some ⟨w.heap.size,0,none⟩,0,l.length/2,false,str [],w1)
    ·refine key ⟨[],?_,Nat.le_refl _,hown,(Below.refl _ w).grown hg (Nat.le_refl _) (fun _ h=>by cases h)⟩;simp
    ·rintro⟨bA,bN,bC,y3,y2,w2⟩ ⟨acc,hp,_,hown2,hB⟩;refine hI _ _ _ _ _ _ _ (ac.no (decide_eq_false (by omega)) ?_);have hd:=DN l acc _ (by omega) hp;refine⟨_,_,iO jq IE vX hown2,?_,hB⟩;rw [hd];rfl
    ·rintro k hk ih ⟨bA,bN,bC,y3,y2,w2⟩ ⟨acc,hp,hacc,hown2,hB⟩;have hi1:2*k+1<l.length:=by omega
     refine hI _ _ _ _ _ _ _ (ac.yes (decide_eq_true (by omega)) ?_);rintro w3 rfl;refine⟨by omega,by omega,Ar.ok64 (by omega) (by omega) ?_⟩;refine⟨by omega,by omega,?_⟩;rw [eU l (2*k) (by omega),show((2*k:Nat):Int)+1=((2*k+1:Nat):Int) by omega,eU l (2*k+1) hi1];refine(td _ w2.drew).mono ?_;rintro e w4 ⟨rfl,rfl⟩;refine⟨_,rfl,?_⟩;refine(td _ w2.drew).mono ?_;rintro e w5 ⟨rfl,rfl⟩;refine⟨_,rfl,?_⟩;cases hx:uS l[2*k]with
     |none=>
      refine ac.yes rfl ⟨?_,hB.drew⟩;rw [ul l acc _ hi1 hp (.inl hx)];rfl
     |some x=>
      cases hy:uS l[2*k+1]with
      |none=>
       refine ac.no (decide_eq_false (by dsimp only;omega)) (ac.yes rfl ⟨?_,hB.drew⟩);rw [ul l acc _ hi1 hp (.inr hy)];rfl
      |some y=>
       have h4:=q_ _ _ hx;have h5:=q_ _ _ hy;refine ac.no (decide_eq_false (by dsimp only;omega)) (ac.no (decide_eq_false (by dsimp only;omega)) ?_);dsimp only;refine Ar.ok64 (by omega) (by omega) (Ar.ok64 (by omega) (by omega) ?_);rw [JY x y h4 h5];rintro w6 rfl;have hn:=hown2.1;dsimp only at hn hown2 hB;rw [Lib.byteCells_length]at hn;obtain⟨a',c',w7,hr,hown7,hg,_⟩:=iw (P:=Tryz.prog) kV vg jq Cr rfl (by decide) (im hown2) [.int .u8 (UInt8.ofNat (16*x+y)).toNat] rfl (by intro u hu;simp at hu;subst hu;rfl) (by omega) (by omega) hB.size;refine⟨_,_,_,w7,hr,Ar.ok64 (by omega) (by omega) ?_⟩;rw [su]at hown7;have:=ih (a',bN+1,c',y3,y2,w7) ⟨acc++ [UInt8.ofNat (16*x+y)],D1 l acc _ hi1 hp x y hx hy,by simp;omega,hown7,fi hB.drew (im hown2) hg hB.size⟩;rw [show((2*k:Nat):Int)+2=((2*(k+1):Nat):Int) by omega];exact this
abbrev C0 (w:World):Prop:=Lib.TabIs Tryz.prog w "internal/strconv.uint64pow10" .u64 Lib.pow10Tab
theorem C0.on {w w':World} (h:C0 w) (hb:Below w.heap.size w w'):C0 w':=Lib.tabBelow_of_tabIs h w' hb
theorem zO (n:Int) (w:World) (hn:QE n) (ht:C0 w):
  CP 297 #[.int .i64 n] w fun e w'=>e= .returned (.string (str (Lib.itoa n)))∧Below w.heap.size w w':=by
 refine aN (zz n w) ?_;refine(Tryz.strconv_Itoa n hn.1 hn.2 w ht).mono ?_;rintro e w' ⟨rfl,k,os,rfl⟩;exact⟨_,rfl,rfl,Lib.below_grow _ w (Nat.le_refl _) k os⟩
theorem wk (xs:List (List UInt8)) (s:List UInt8):fL xs++ [.string (str s)]=fL (xs++ [s]):=by simp [fL]
theorem I' {base:Nat} {w:World} {a:Option Addr} {n c:Nat} {xs:List (List UInt8)} (h:w.ownsRow base fE 1 (.slice a n c) n (fL xs)) (s:List UInt8) (hx:xs.length≤1000000) (hB:base≤w.heap.size):
  ∃a' c' w3,(Builtin.append_ #[ft,ft] ft #[.slice a n c,.slice (some (nb w)) 1 1]).run Tryz.prog (w.alloc (.cells #[.string (str s)] fE))= .ok (.slice a' (n+1) c') w3∧
   w3.ownsRow base fE 1 (.slice a' (n+1) c') (n+1) (fL (xs++ [s]))∧∀w0,Below base w0 w→Below base w0 w3:=by
 have hn:=(dm.of_own h).2.1;obtain⟨a',c',w4,hr,hown4,hg,_⟩:=iw (P:=Tryz.prog) ft fE jW kd rfl (by decide) h [.string (str s)] rfl (by intro u hu;simp at hu;subst hu;rfl) (by omega) (by omega) hB;rw [wk]at hown4;exact⟨a',c',w4,hr,hown4,fun w0 hb=>fi hb h hg hB⟩
abbrev Mx (w:World):Prop:=∃m,w.cell? ⟨0,0,none⟩=some (.int .i64 m)
theorem Mx.on {w w':World} (h:Mx w) (hb:Below w.heap.size w w'):Mx w':=by
 obtain⟨m,hm⟩:=h;have hlt:0<w.heap.size:=World.block_lt_of_cell? _ _ hm;exact⟨m,by rw [hb.cell hlt];exact hm⟩
theorem ML (l:List UInt8) (w:World) (hl:l.length≤1000000) (hm:Mx w):
  CP 186 #[.string (str l)] w fun e w'=>e= .returned (.slice (some (nb w)) (a_ 32 l).length (a_ 32 l).length)∧dm w' (some (nb w)) (a_ 32 l)∧Below w.heap.size w w':=by
 refine aN (zT (str l) w) ?_;obtain⟨m,hm⟩:=hm;refine(Tryz.strings_Split (str l) ⟨#[32]⟩ m w (by rw [aR];omega) hm (Nat.le_refl 1)).mono ?_;rintro e w1 ⟨rfl,rfl⟩;have hlen:(a_ 32 l).length=Lib.countB (str l) ⟨#[32]⟩+1:=B6 32 (str l);refine⟨_,_,_,rfl,by rw [hlen],?_,ah _ _⟩;intro j s hj;refine⟨_,rfl,by rw [aA];exact Nat.lt_succ_self _,?_⟩;rw [aB,Nat.zero_add,aV];rw [show a_ 32 l=a_ 32 (str l).data.toList from rfl, ←rX]at hj;rw [List.getElem?_map,Option.map_eq_some_iff]at hj;obtain⟨x,hx,rfl⟩:=hj;simp only [List.getElem?_toArray,List.getElem?_map,hx,Option.map_some]
theorem DA (l:List UInt8) (w:World) (hl:l.length≤100000) (hm:Mx w):
  CP 128 #[.string (str l)] w fun e w'=>∃a c,e= .returned (.tuple #[.slice a ((a_ 10 l).length-1) c,.bool (decide ((a_ 10 l).getLast?=some []))])∧dm w' a (a_ 10 l).dropLast∧Below w.heap.size w w':=by
 refine aN (Am (str l) w) ?_;intro I hI;have key:∀(k:Nat) (r:List UInt8),r.length≤k→∀(done:List (List UInt8)) (a:Option Addr) (n c:Nat) (y3:Bool) (yA:Option Addr) (yN yC:Nat) (w1:World),a_ 10 l=done++a_ 10 r→done.length+r.length≤l.length→
   w1.ownsRow w.heap.size fE 1 (.slice a n c) n (fL done)→Below w.heap.size w w1→I [.slice a n c,.bool y3,.slice yA yN yC,.string (str r)] w1:=by
  intro k;induction k with
  |zero=>
   intro r hr done a n c y3 yA yN yC w1 hcut hle hown hB;have:r= []:=List.eq_nil_of_length_eq_zero (by omega);subst this;refine hI _ _ _ _ _ _ _ _ _ ?_;obtain⟨m,hm⟩:=hm.on hB;refine(Tryz.strings_Cut (str []) ⟨#[10]⟩ m w1 (by decide) hm).mono ?_;rintro e w2 ⟨rfl,q,rfl⟩;refine⟨_,_,_,rfl,?_⟩;rw [show Lib.cut (str []).data.toList (⟨#[10]⟩:ByteArray).data.toList=([],[],false)from rfl];refine ac.yes rfl ?_;obtain⟨hrow,hn,hc⟩:=dm.of_own hown;have hrow:dm (w1.drewN q) a done:=hrow;have hcut:a_ 10 l=done++ [[]]:=hcut;refine⟨a,c,?_,?_,hB.trans ⟨rfl,rfl,rfl,Nat.le_refl _,fun _ _=>rfl⟩⟩
   ·rw [hcut];simp [hn]
   ·rw [hcut];simpa using hrow
  |succ k ih=>
   intro r hr done a n c y3 yA yN yC w1 hcut hle hown hB;refine hI _ _ _ _ _ _ _ _ _ ?_;obtain⟨m,hm1⟩:=hm.on hB;refine(Tryz.strings_Cut (str r) ⟨#[10]⟩ m w1 (by rw [aR];omega) hm1).mono ?_;rintro e w2 ⟨rfl,q,rfl⟩;refine⟨_,_,_,rfl,?_⟩;have hBq:Below w.heap.size w (w1.drewN q):=hB.trans ⟨rfl,rfl,rfl,Nat.le_refl _,fun _ _=>rfl⟩;obtain⟨hrow,hn,hc⟩:=dm.of_own hown;have hrow:dm (w1.drewN q) a done:=hrow;rw [show(str r).data.toList=r from rfl,show(⟨#[10]⟩:ByteArray).data.toList= [10]from rfl];rcases qm 10 r with h |⟨i,h,hi⟩
   ·rw [G7 10 r h];rw [pi 10 r h]at hcut;refine ac.yes rfl ?_;refine⟨a,c,?_,?_,hBq⟩
    ·rw [hcut,show(⟨#[]⟩:ByteArray)=str []from rfl,eG];simp [hn]
    ·rw [hcut];simpa using hrow
   ·rw [Jg 10 r i h];rw [qW 10 r i h]at hcut;refine ac.no rfl ?_;rintro w3 rfl;obtain⟨a',c',w4,hrun,hown4,hB4⟩:=I' (w:=w1.drewN q) (base:=w.heap.size) hown (r.take i) (by omega) hBq.size;refine⟨_,_,_,w4,hrun,?_⟩;refine ih (r.drop (i+1)) (by rw [List.length_drop];omega) (done++ [r.take i]) a' (n+1) c' y3 yA yN yC w4 (by rw [hcut];simp) ?_ hown4 (hB4 _ hBq);rw [List.length_append,List.length_drop];simp;omega
 exact key l.length l (Nat.le_refl _) [] none 0 0 false none 0 0 w rfl (by simp) (cO _ _ _ _) (Below.refl _ _)
def MC:Option Nat→Value
 |some u=>.tuple #[.int .i64 u,.bool true]
 |none=>.tuple #[.int .i64 0,.bool false]
theorem Ke (n:Nat) (w:World):(do eqGuard .neq 372 (.tmp n) (.const Value.nilIface) Value.nilIface Value.nilIface;binOp .neq 372 Value.nilIface Value.nilIface).run Tryz.prog w= .ok (.bool false) w:=by kernel_rfl
theorem wY (k:TypeId) (p:Option Addr) (n:Nat) (w:World):(do eqGuard .neq 372 (.tmp n) (.const Value.nilIface) (Value.iface k (.pointer p)) Value.nilIface;binOp .neq 372 (Value.iface k (.pointer p)) Value.nilIface).run Tryz.prog w= .ok (.bool true) w:=by kernel_rfl
abbrev nW (w:World):Prop:=(∃tp p,w.var? Tryz.prog "strconv.ErrSyntax" =some #[.iface tp p])∧(∃tp p,w.var? Tryz.prog "strconv.ErrRange" =some #[.iface tp p])
theorem Ia {P:Program} {w w':World} {n:String} {cs:Array Value} (h:w.var? P n=some cs) (hb:Below w.heap.size w w'):w'.var? P n=some cs:=by
 unfold World.var? at*;cases hg:P.globalNamed n with
 |none=>simp [hg]at h
 |some g=>
  simp only [hg,Option.bind_some]at h⊢;have hlt:g<w.heap.size:=by
   rcases Nat.lt_or_ge g w.heap.size with h' |h'
   ·exact h'
   ·rw [Array.getElem?_eq_none h']at h;simp at h
  rw [hb.block g hlt];exact h
theorem nW.on {w w':World} (h:nW w) (hb:Below w.heap.size w w'):nW w':=by
 obtain⟨⟨t1,p1,h1⟩,⟨t2,p2,h2⟩⟩:=h;exact⟨⟨t1,p1,Ia h1 hb⟩,⟨t2,p2,Ia h2 hb⟩⟩
theorem xn {l:List UInt8} {v:Int} (h:Lib.atoiAll l= .ok v):QE v:=by
 unfold QE;cases l with
 |nil=>simp [Lib.atoiAll]at h
 |cons c r=>
  simp only [Lib.atoiAll]at h;split at h
  ·cases h
  ·cases h
  ·split at h
   ·cases h
   ·split at h
    ·cases h
    ·injection h with h
     split at h<;>omega
theorem tg (l:List UInt8) (most:Int) (w:World) (hl:l.length≤1000000) (ht:C0 w) (he:nW w):
  CP 270 #[.string (str l),.int .i64 most] w fun e w'=>e= .returned (MC (fY l most))∧Below w.heap.size w w':=by
 refine aN (xx (str l) most w) ?_;have none_of:(∀u:Nat,u≤AV→(u:Int)≤most→Lib.decDigits u≠l)→Ending.returned (Value.tuple #[.int .i64 0,.bool false])= .returned (MC (fY l most)):=fun h=>by rw [Bt l most h];rfl
 have bad:∀ {tp:TypeId} {x:Int} {w1:World} {N:Nat},(∀v,Lib.atoiAll l≠ .ok v)→Below w.heap.size w w1→Ending.returned (Value.tuple #[.int .i64 0,.bool false])= .returned (MC (fY l most))∧Below w.heap.size w w1:=by
  intro tp x w1 N h hb;exact⟨none_of fun u hu _ e=>h u (by rw [←e];exact nM u hu),hb⟩
 cases h:Lib.atoiAll l;case ok v=>
  have hv:=xn h;refine(Tryz.strconv_Atoi_ok (str l) (by rw [aR];omega) v h w).mono ?_;rintro e w1 ⟨rfl,hw⟩;have hb:Below w.heap.size w w1:=by
   rcases hw with rfl |⟨t,rfl⟩
   ·exact Below.refl _ _
   ·exact Lib.bytesWorld_below _ _ _
  refine⟨_,_,rfl,_,_,Ke _ _,ac.no rfl (ac.mk ?_ ?_)⟩
  ·intro h0;have h0:=of_decide_eq_true h0;refine⟨none_of fun u hu _ e=>?_,hb⟩;rw [←e,nM u hu]at h;injection h with h
   omega
  ·intro h0;have h0:=of_decide_eq_false h0;refine ac.mk ?_ ?_
   ·intro hm;have hm:=of_decide_eq_true hm;refine⟨none_of fun u hu hum e=>?_,hb⟩;rw [←e,nM u hu]at h;injection h with h
    omega
   ·intro hm;have hm:=of_decide_eq_false hm;refine(zO v w1 hv (ht.on hb)).mono ?_;rintro e w3 ⟨rfl,h3⟩;have hb3:=ae hb h3;obtain⟨u,rfl⟩:∃u:Nat,v=u:=⟨v.toNat,by omega⟩;rw [Lib.itoa_nonneg];refine⟨_,rfl,ac.mk ?_ ?_⟩
    ·intro hne;rw [eG]at hne;have hne:Lib.decDigits u≠l:=by simpa using hne
     refine⟨none_of fun u' hu' _ e=>?_,hb3⟩;rw [←e,nM u' hu']at h;injection h with h
     have:u'=u:=by omega
     subst this;exact hne e
    ·intro heq;rw [eG]at heq;have heq:Lib.decDigits u=l:=by simpa using heq
     refine⟨?_,hb3⟩;have hmax:=hv.2;rw [pw l most u (by unfold AV;omega) (by omega) heq];rfl
 case range=>
  obtain⟨_,⟨tp,p,hvar⟩⟩:=he;refine(Tryz.strconv_Atoi_range_var (str l) (by rw [aR];omega) h tp p w hvar).mono ?_;rintro e w1 ⟨N,rfl,_,_,hb⟩;exact⟨_,_,rfl,_,_,wY _ _ _ _,ac.yes rfl (bad (tp:=tp) (x:=0) (N:=N) (fun v hv=>by rw [hv]at h;cases h) hb)⟩
 obtain⟨⟨tp,p,hvar⟩,_⟩:=he;refine(Tryz.strconv_Atoi_syntax_var (str l) (by rw [aR];omega) (by rw [show(str l).data.toList=l from rfl,h];trivial) tp p w hvar).mono ?_;rintro e w1 ⟨N,rfl,_,_,hb⟩;exact⟨_,_,rfl,_,_,wY _ _ _ _,ac.yes rfl (bad (tp:=tp) (x:=0) (N:=N) (fun v hv=>by rw [hv]at h;cases h) hb)⟩
noncomputable def jx:List Bs→Option (List Int)
 | []=>some []
 |w::r=>match dP w with
  |none=>none
  |some x=>(jx r).map (x:: ·)
theorem As (l:List Bs):(if l.length=2 then jx l else none)=(fI l).map fun m=>[m.1,m.2]:=by
 match l with
 | []=>rfl
 | [_]=>rfl
 | [a,b]=>
  simp only [jx,fI];cases dP a<;>cases dP b<;>simp
 |_::_::_::_=>simp [fI]
theorem H9 (l:List Bs):(if l.length=3 then jx l else none)=(iY l).map fun m=>[m.1,m.2.1,m.2.2]:=by
 match l with
 | []=>rfl
 | [_]=>rfl
 | [_,_]=>rfl
 | [a,b,c]=>
  simp only [jx,iY];cases dP a<;>cases dP b<;>cases dP c<;>simp
 |_::_::_::_::_=>simp [iY]
def I0 (o:Option (List Int)) (e:Ending) (w':World):Prop:=match o with
 |some ns=>∃a c,e= .returned (.tuple #[.slice a ns.length c,.bool true])∧Gu w' a ns
 |none=>e= .returned (.tuple #[.slice none 0 0,.bool false])
theorem kf (a:Option Addr) (c:Nat) (ws:List Bs) (many:Nat) (w:World) (h:dm w a ws) (hl:∀x∈ws,x.length≤1000000) (hn:ws.length≤1000000) (ht:C0 w) (he:nW w):
  CP 268 #[.slice a ws.length c,.int .i64 many] w fun e w'=>I0 (if ws.length=many then jx ws else none) e w'∧Below w.heap.size w w':=by
 refine aN (xh a ws.length c many w) ?_;refine ac.mk ?_ ?_
 ·intro hc;have hc:(ws.length:Int)≠many:=by simpa using hc
  rw [if_neg (by omega)];exact⟨rfl,Below.refl _ _⟩
 ·intro hc;have hc:(ws.length:Int)=many:=by simpa using hc
  rw [if_pos (by omega)];intro I hI;refine bj (α:=Option Addr×Nat×Nat×List Int×World) ws.length
   (fun i x=>jx ws=(jx (ws.drop i)).map (x.2.2.2.1++ ·)∧x.2.2.2.2.ownsRow w.heap.size bh 1 (.slice x.1 x.2.1 x.2.2.1) x.2.1 (x.2.2.2.1.flatMap ay)∧x.2.2.2.1.length=i∧Below w.heap.size w x.2.2.2.2)
   (fun i x=>I [.int .i64 (i:Int),.slice x.1 x.2.1 x.2.2.1,.bool false,.slice none 0 0] x.2.2.2.2) (none,0,0,[],w) ?_ ?_ ?_
  ·refine⟨?_,cO _ _ _ _,rfl,Below.refl _ _⟩;cases hns:jx ws<;>simp [hns]
  ·rintro i hi ih ⟨oA,oN,oC,ns,w1⟩ ⟨hnum,hown,hlen,hB⟩;dsimp only at hnum hown hlen hB;refine hI _ _ _ _ _ _ _ _ _ (ac.yes (by simp;omega) ?_);obtain⟨x,hxa,_,hcx⟩:=(h.on hB) i _ (List.getElem?_eq_getElem hi);refine af.mk x hxa ⟨by omega,by omega,str ws[i],by simpa using hcx,?_⟩;refine(tg ws[i] d_ w1 (hl _ (List.getElem_mem hi)) (ht.on hB) (he.on hB)).mono ?_;rintro e w2 ⟨rfl,h2⟩;have hB2:=ae hB h2;rw [List.drop_eq_getElem_cons hi]at hnum;have hw:dP ws[i]=(fY ws[i] d_).map fun u=>(u:Int):=rfl;cases hp:fY ws[i] d_ with
   |none=>
    refine⟨_,_,rfl,ac.yes rfl ⟨?_,hB2⟩⟩;rw [hnum,jx,hw,hp];rfl
   |some u=>
    refine⟨_,_,rfl,ac.no rfl ?_⟩;rintro w3 rfl;have hoN:oN=i:=by
     have:=(Rw.of_own (s:=⟨oA,oN,oC⟩) hown (fun _=>rfl) (by decide)).2;simp at this;omega
    obtain⟨a',c',w4,hr,hown4,hg,_⟩:=iw (P:=Tryz.prog) cq bh qG wC rfl (by decide) (aF hown h2) [.int .i64 (u:Int)] rfl (by intro v hv;simp at hv;subst hv;rfl) (by omega) (by omega) hB2.size;refine⟨a',oN+1,c',w4,hr,Ar.ok64 (by omega) (by omega) ?_⟩;refine ih (a',oN+1,c',ns++ [(u:Int)],w4) ⟨?_,?_,by simp [hlen],fi hB2 (aF hown h2) hg hB2.size⟩
    ·rw [hnum,jx,hw,hp];dsimp only [Option.map_some];cases jx (ws.drop (i+1))<;>simp
    ·rw [List.flatMap_append];exact hown4
  ·rintro⟨oA,oN,oC,ns,w1⟩ ⟨hnum,hown,hlen,hB⟩;dsimp only at hnum hown hlen hB;refine hI _ _ _ _ _ _ _ _ _ (ac.no (by simp) ⟨?_,hB⟩);rw [List.drop_length]at hnum;rw [hnum];obtain⟨h1,h2⟩:=Rw.of_own (s:=⟨oA,oN,oC⟩) hown (fun _=>rfl) (by decide);dsimp only at h1 h2;simp only [jx,Option.map_some,List.append_nil];exact⟨oA,oC,by rw [h2],h1.ints⟩
abbrev tR:TypeId:=211
abbrev row1 (x:Sl) (s:ak):hU:=⟨x,mh,2,s.merges.flatMap aP⟩
abbrev row2 (x:Sl) (s:ak):hU:=⟨x,fE,1,s.tokens.flatMap c_⟩
abbrev xd (x:Sl) (s:ak):hU:=⟨x,nr,2,s.specials.flatMap aD⟩
abbrev xI (x:Sl) (s:ak):hU:=⟨x,FU,3,s.classes.flatMap bH⟩
abbrev BM (x:Sl) (s:ak):hU:=⟨x,Jc,2,s.joins.flatMap aP⟩
abbrev wt (x:aY) (s:ak):List hU:=[row1 x.s1 s,row2 x.s2 s,xd x.s3 s,xI x.s4 s,BM x.s5 s]
abbrev vC (x:aY) (k:Int):Array Value:=#[.bool x.ranked,x.s1.v,x.s2.v,x.s3.v,x.s4.v,x.s5.v,.int .i64 k]
structure eI (B b:Nat) (x:aY) (s:ak) (k:Int) (w:World):Prop where
 hB:B≤b
 blk:w.heap[b]? =some (.cells (vC x k) tR (0,0))
 rk:x.ranked=s.ranked
 rows:dv w B (wt x s)
 off:∀r∈wt x s,r.blk≠some b
theorem eI.lt {B b:Nat} {x:aY} {s:ak} {k:Int} {w:World} (h:eI B b x s k w):b<w.heap.size:=(Array.getElem?_eq_some_iff.1 h.blk).1
theorem eI.on {B b:Nat} {x:aY} {s:ak} {k:Int} {w w':World} (h:eI B b x s k w) (hb:Below w.heap.size w w'):eI B b x s k w':=
 ⟨h.hB,by rw [hb.block b h.lt];exact h.blk,h.rk,h.rows.on hb,h.off⟩
theorem eI.spec {B b:Nat} {x:aY} {s:ak} {k:Int} {w:World} (h:eI B b x s k w):cI w x s:=by
 have o1:=Rw.of_own (h.rows.own (row1 x.s1 s) (by simp)) (fun _=>rfl) (Nat.succ_pos _);have o2:=Rw.of_own (h.rows.own (row2 x.s2 s) (by simp)) (fun _=>rfl) (Nat.succ_pos _);have o3:=Rw.of_own (h.rows.own (xd x.s3 s) (by simp)) (fun _=>rfl) (Nat.succ_pos _);have o4:=Rw.of_own (h.rows.own (xI x.s4 s) (by simp)) (fun _=>rfl) (Nat.succ_pos _);have o5:=Rw.of_own (h.rows.own (BM x.s5 s) (by simp)) (fun _=>rfl) (Nat.succ_pos _);exact⟨h.rk,o1.2,o1.1,o2.2,o2.1,o3.2,o3.1,o4.2,o4.1,o5.2,o5.1⟩
def gU (B b:Nat) (o:Option ak) (k:Int) (ok:Bool) (w':World):Prop:=match o with
 |some s'=>ok=true∧∃x',eI B b x' s' k w'
 |none=>ok=false
theorem Ku {B b:Nat} {x:aY} {s:ak} {k:Int} {w:World} (h:eI B b x s k w) (hs:s.merges.length≤1000000) (m:Int×Int):
  ∃a' c' w3,(Builtin.append_ #[33,33] 33 #[x.s1.v,.slice (some (nb w)) 1 1]).run Tryz.prog (w.alloc (.cells (aP m).toArray mh))= .ok (.slice a' (x.s1.n+1) c') w3∧
   (∃u,w3.cell? ((⟨b,0,none⟩:Addr).add 1)=some u)∧w3.frozen? ((⟨b,0,none⟩:Addr).add 1)=false∧
   ∀w4,w4=w3.setCell ((⟨b,0,none⟩:Addr).add 1) (.slice a' (x.s1.n+1) c')→eI B b {x with s1:=⟨a',x.s1.n+1,c'⟩} {s with merges:=s.merges++ [m]} k w4∧(∀w0,Below B w0 w→Below B w0 w4):=by
 have hn:x.s1.n=s.merges.length:=h.spec.n1;obtain⟨a',c',w3,hr,hc,hf,hk⟩:=ly (P:=Tryz.prog) (pre:=[]) (post:=[row2 x.s2 s,xd x.s3 s,xI x.s4 s,BM x.s5 s]) (r:=row1 x.s1 s) 1 h.blk (by simp) h.rows h.off h.hB 33 wd vD rfl (Nat.succ_pos _) (aP m) rfl (by intro u hu;simp [aP]at hu;rcases hu with rfl |rfl<;>rfl) (by dsimp only;omega) (by dsimp only;omega)
 refine⟨a',c',w3,hr,hc,hf,?_⟩;rintro w4 hw4;obtain⟨k1,k2,k3,k4⟩:=hk w4 hw4;have e:s.merges.flatMap aP++aP m=(s.merges++ [m]).flatMap aP:=by simp
 dsimp only at k2 k3;rw [e]at k2 k3;exact⟨⟨h.hB,k1.trans rfl,h.rk,k2,k3⟩,k4⟩
theorem Kr {B b:Nat} {x:aY} {s:ak} {k:Int} {w:World} (h:eI B b x s k w) (hs:s.tokens.length≤1000000) (m:Bs):
  ∃a' c' w3,(Builtin.append_ #[ft,ft] ft #[x.s2.v,.slice (some (nb w)) 1 1]).run Tryz.prog (w.alloc (.cells (c_ m).toArray fE))= .ok (.slice a' (x.s2.n+1) c') w3∧
   (∃u,w3.cell? ((⟨b,0,none⟩:Addr).add 2)=some u)∧w3.frozen? ((⟨b,0,none⟩:Addr).add 2)=false∧
   ∀w4,w4=w3.setCell ((⟨b,0,none⟩:Addr).add 2) (.slice a' (x.s2.n+1) c')→eI B b {x with s2:=⟨a',x.s2.n+1,c'⟩} {s with tokens:=s.tokens++ [m]} k w4∧(∀w0,Below B w0 w→Below B w0 w4):=by
 have hn:x.s2.n=s.tokens.length:=h.spec.n2;obtain⟨a',c',w3,hr,hc,hf,hk⟩:=ly (P:=Tryz.prog) (pre:=[row1 x.s1 s]) (post:=[xd x.s3 s,xI x.s4 s,BM x.s5 s]) (r:=row2 x.s2 s) 2 h.blk (by simp) h.rows h.off h.hB ft jW kd rfl (Nat.succ_pos _) (c_ m) rfl (by intro u hu;simp [c_]at hu;rcases hu with rfl;rfl) (by dsimp only;omega) (by dsimp only;omega);refine⟨a',c',w3,hr,hc,hf,?_⟩;rintro w4 hw4;obtain⟨k1,k2,k3,k4⟩:=hk w4 hw4;have e:s.tokens.flatMap c_++c_ m=(s.tokens++ [m]).flatMap c_:=by simp
 dsimp only at k2 k3;rw [e]at k2 k3;exact⟨⟨h.hB,k1.trans rfl,h.rk,k2,k3⟩,k4⟩
theorem Jm {B b:Nat} {x:aY} {s:ak} {k:Int} {w:World} (h:eI B b x s k w) (hs:s.specials.length≤1000000) (m:Int×Bs):
  ∃a' c' w3,(Builtin.append_ #[25,25] 25 #[x.s3.v,.slice (some (nb w)) 1 1]).run Tryz.prog (w.alloc (.cells (aD m).toArray nr))= .ok (.slice a' (x.s3.n+1) c') w3∧
   (∃u,w3.cell? ((⟨b,0,none⟩:Addr).add 3)=some u)∧w3.frozen? ((⟨b,0,none⟩:Addr).add 3)=false∧
   ∀w4,w4=w3.setCell ((⟨b,0,none⟩:Addr).add 3) (.slice a' (x.s3.n+1) c')→eI B b {x with s3:=⟨a',x.s3.n+1,c'⟩} {s with specials:=s.specials++ [m]} k w4∧(∀w0,Below B w0 w→Below B w0 w4):=by
 have hn:x.s3.n=s.specials.length:=h.spec.n3;obtain⟨a',c',w3,hr,hc,hf,hk⟩:=ly (P:=Tryz.prog) (pre:=[row1 x.s1 s,row2 x.s2 s]) (post:=[xI x.s4 s,BM x.s5 s]) (r:=xd x.s3 s) 3 h.blk (by simp) h.rows h.off h.hB 25 qV vW rfl (Nat.succ_pos _) (aD m) rfl (by intro u hu;simp [aD]at hu;rcases hu with rfl |rfl<;>rfl) (by dsimp only;omega) (by dsimp only;omega)
 refine⟨a',c',w3,hr,hc,hf,?_⟩;rintro w4 hw4;obtain⟨k1,k2,k3,k4⟩:=hk w4 hw4;have e:s.specials.flatMap aD++aD m=(s.specials++ [m]).flatMap aD:=by simp
 dsimp only at k2 k3;rw [e]at k2 k3;exact⟨⟨h.hB,k1.trans rfl,h.rk,k2,k3⟩,k4⟩
theorem Ko {B b:Nat} {x:aY} {s:ak} {k:Int} {w:World} (h:eI B b x s k w) (hs:s.classes.length≤1000000) (m:Int×Int×Int):
  ∃a' c' w3,(Builtin.append_ #[23,23] 23 #[x.s4.v,.slice (some (nb w)) 1 1]).run Tryz.prog (w.alloc (.cells (bH m).toArray FU))= .ok (.slice a' (x.s4.n+1) c') w3∧
   (∃u,w3.cell? ((⟨b,0,none⟩:Addr).add 4)=some u)∧w3.frozen? ((⟨b,0,none⟩:Addr).add 4)=false∧
   ∀w4,w4=w3.setCell ((⟨b,0,none⟩:Addr).add 4) (.slice a' (x.s4.n+1) c')→eI B b {x with s4:=⟨a',x.s4.n+1,c'⟩} {s with classes:=s.classes++ [m]} k w4∧(∀w0,Below B w0 w→Below B w0 w4):=by
 have hn:x.s4.n=s.classes.length:=h.spec.n4;obtain⟨a',c',w3,hr,hc,hf,hk⟩:=ly (P:=Tryz.prog) (pre:=[row1 x.s1 s,row2 x.s2 s,xd x.s3 s]) (post:=[BM x.s5 s]) (r:=xI x.s4 s) 4 h.blk (by simp) h.rows h.off h.hB 23 wA Da rfl (Nat.succ_pos _) (bH m) rfl (by intro u hu;simp [bH]at hu;rcases hu with rfl |rfl |rfl<;>rfl) (by dsimp only;omega) (by dsimp only;omega)
 refine⟨a',c',w3,hr,hc,hf,?_⟩;rintro w4 hw4;obtain⟨k1,k2,k3,k4⟩:=hk w4 hw4;have e:s.classes.flatMap bH++bH m=(s.classes++ [m]).flatMap bH:=by simp
 dsimp only at k2 k3;rw [e]at k2 k3;exact⟨⟨h.hB,k1.trans rfl,h.rk,k2,k3⟩,k4⟩
theorem JO {B b:Nat} {x:aY} {s:ak} {k:Int} {w:World} (h:eI B b x s k w) (hs:s.joins.length≤1000000) (m:Int×Int):
  ∃a' c' w3,(Builtin.append_ #[24,24] 24 #[x.s5.v,.slice (some (nb w)) 1 1]).run Tryz.prog (w.alloc (.cells (aP m).toArray Jc))= .ok (.slice a' (x.s5.n+1) c') w3∧
   (∃u,w3.cell? ((⟨b,0,none⟩:Addr).add 5)=some u)∧w3.frozen? ((⟨b,0,none⟩:Addr).add 5)=false∧
   ∀w4,w4=w3.setCell ((⟨b,0,none⟩:Addr).add 5) (.slice a' (x.s5.n+1) c')→eI B b {x with s5:=⟨a',x.s5.n+1,c'⟩} {s with joins:=s.joins++ [m]} k w4∧(∀w0,Below B w0 w→Below B w0 w4):=by
 have hn:x.s5.n=s.joins.length:=h.spec.n5;obtain⟨a',c',w3,hr,hc,hf,hk⟩:=ly (P:=Tryz.prog) (pre:=[row1 x.s1 s,row2 x.s2 s,xd x.s3 s,xI x.s4 s]) (post:=[]) (r:=BM x.s5 s) 5 h.blk (by simp) h.rows h.off h.hB 24 vM DR rfl (Nat.succ_pos _) (aP m) rfl (by intro u hu;simp [aP]at hu;rcases hu with rfl |rfl<;>rfl) (by dsimp only;omega) (by dsimp only;omega)
 refine⟨a',c',w3,hr,hc,hf,?_⟩;rintro w4 hw4;obtain⟨k1,k2,k3,k4⟩:=hk w4 hw4;have e:s.joins.flatMap aP++aP m=(s.joins++ [m]).flatMap aP:=by simp
 dsimp only at k2 k3;rw [e]at k2 k3;exact⟨⟨h.hB,k1.trans rfl,h.rk,k2,k3⟩,k4⟩
theorem ub (B b:Nat) (x:aY) (s:ak) (k:Int) (a:Option Addr) (c:Nat) (ws:List Bs) (w:World) (hR:eI B b x s k w) (hs:gj s) (h:dm w a ws) (hl:∀x∈ws,x.length≤1000000) (hn:ws.length≤1000000) (ht:C0 w) (he:nW w):
  CP 234 #[.pointer (some ⟨b,0,none⟩),.slice a ws.length c] w fun e w'=>∃ok,e= .returned (.bool ok)∧gU B b ((fI ws).map fun m=>{s with merges:=s.merges++ [m]}) k ok w'∧Below B w w':=by
 refine aN (xK (some ⟨b,0,none⟩) a ws.length c w) ?_;have hBw:B≤w.heap.size:=Nat.le_trans hR.hB (Nat.le_of_lt hR.lt);refine(kf a c ws 2 w h hl hn ht he).mono ?_;rintro e w1 ⟨hp,hB1⟩;rw [As]at hp;have hBB:Below B w w1:=hB1.mono hBw;cases hm:fI ws with
 |none=>
  rw [hm]at hp;subst hp;refine⟨_,_,_,_,rfl,?_⟩;intro J hJ;exact ac.no rfl (hJ w1 ⟨false,rfl,rfl,hBB⟩)
 |some m=>
  rw [hm]at hp;obtain⟨ra,rc,rfl,hrow⟩:=hp;refine⟨_,_,_,_,rfl,?_⟩;intro J hJ;refine ac.yes rfl ?_;rintro w3 rfl;have hR3:eI B b x s k w1.drew:=(hR.on hB1).on ((Below.refl _ _).drew);have hns:([m.1,m.2]:List Int).length=2:=rfl;refine af.mk ⟨b,0,none⟩ rfl ⟨_,_,_,(aH (j:=1) hR3.blk).trans rfl,?_⟩;obtain⟨p0,hp0,hlt0,hc0⟩:=hrow 0 _ rfl;obtain⟨p1,hp1,hlt1,hc1⟩:=hrow 1 _ rfl;refine af.mk p0 hp0 ⟨by simp,by simp,m.1,hc0,?_⟩;refine af.mk p1 hp1 ⟨by simp,by simp,m.2,hc1,?_⟩;rintro w4 rfl;have hR4:=hR3.on (ah w1.drew (.cells (aP m).toArray mh));refine⟨⟨(aH (j:=1) hR4.blk).trans rfl,trivial⟩,?_⟩;obtain⟨a',c',w5,hr,hcc,hf,hk⟩:=Ku hR3 hs.1 m;refine⟨a',_,c',w5,hr,?_⟩;refine af.mk ⟨b,0,none⟩ rfl ⟨rfl,hcc,hf,?_⟩;intro w6 hw6;obtain⟨k1,k2⟩:=hk w6 hw6;exact hJ w6 ⟨true,rfl,⟨rfl,_,k1⟩,k2 w hBB.drew⟩
theorem tY (B b:Nat) (x:aY) (s:ak) (k:Int) (a:Option Addr) (c:Nat) (ws:List Bs) (w:World) (hR:eI B b x s k w) (hs:gj s) (h:dm w a ws) (hl:∀x∈ws,x.length≤1000000) (hn:ws.length≤1000000) (ht:C0 w) (he:nW w):
  CP 237 #[.pointer (some ⟨b,0,none⟩),.slice a ws.length c] w fun e w'=>∃ok,e= .returned (.bool ok)∧gU B b ((iY ws).map fun m=>{s with classes:=s.classes++ [m]}) k ok w'∧Below B w w':=by
 refine aN (Bf (some ⟨b,0,none⟩) a ws.length c w) ?_;have hBw:B≤w.heap.size:=Nat.le_trans hR.hB (Nat.le_of_lt hR.lt);refine(kf a c ws 3 w h hl hn ht he).mono ?_;rintro e w1 ⟨hp,hB1⟩;rw [H9]at hp;have hBB:Below B w w1:=hB1.mono hBw;cases hm:iY ws with
 |none=>
  rw [hm]at hp;subst hp;refine⟨_,_,_,_,rfl,?_⟩;intro J hJ;exact ac.no rfl (hJ w1 ⟨false,rfl,rfl,hBB⟩)
 |some m=>
  rw [hm]at hp;obtain⟨ra,rc,rfl,hrow⟩:=hp;refine⟨_,_,_,_,rfl,?_⟩;intro J hJ;refine ac.yes rfl ?_;rintro w3 rfl;have hR3:eI B b x s k w1.drew:=(hR.on hB1).on ((Below.refl _ _).drew);have hns:([m.1,m.2.1,m.2.2]:List Int).length=3:=rfl;refine af.mk ⟨b,0,none⟩ rfl ⟨_,_,_,(aH (j:=4) hR3.blk).trans rfl,?_⟩;obtain⟨p0,hp0,hlt0,hc0⟩:=hrow 0 _ rfl;obtain⟨p1,hp1,hlt1,hc1⟩:=hrow 1 _ rfl;obtain⟨p2,hp2,hlt2,hc2⟩:=hrow 2 _ rfl;refine af.mk p0 hp0 ⟨by simp,by simp,m.1,hc0,?_⟩;refine af.mk p1 hp1 ⟨by simp,by simp,m.2.1,hc1,?_⟩;refine af.mk p2 hp2 ⟨by simp,by simp,m.2.2,hc2,?_⟩;rintro w4 rfl;have hR4:=hR3.on (ah w1.drew (.cells (bH m).toArray FU));refine⟨⟨(aH (j:=4) hR4.blk).trans rfl,trivial⟩,?_⟩;obtain⟨a',c',w5,hr,hcc,hf,hk⟩:=Ko hR3 hs.2.2.2.1 m;refine⟨a',_,c',w5,hr,?_⟩;refine af.mk ⟨b,0,none⟩ rfl ⟨rfl,hcc,hf,?_⟩;intro w6 hw6;obtain⟨k1,k2⟩:=hk w6 hw6;exact hJ w6 ⟨true,rfl,⟨rfl,_,k1⟩,k2 w hBB.drew⟩
theorem vY (B b:Nat) (x:aY) (s:ak) (k:Int) (a:Option Addr) (c:Nat) (ws:List Bs) (w:World) (hR:eI B b x s k w) (hs:gj s) (h:dm w a ws) (hl:∀x∈ws,x.length≤1000000) (hn:ws.length≤1000000) (ht:C0 w) (he:nW w):
  CP 238 #[.pointer (some ⟨b,0,none⟩),.slice a ws.length c] w fun e w'=>∃ok,e= .returned (.bool ok)∧gU B b ((fI ws).map fun m=>{s with joins:=s.joins++ [m]}) k ok w'∧Below B w w':=by
 refine aN (zf (some ⟨b,0,none⟩) a ws.length c w) ?_;have hBw:B≤w.heap.size:=Nat.le_trans hR.hB (Nat.le_of_lt hR.lt);refine(kf a c ws 2 w h hl hn ht he).mono ?_;rintro e w1 ⟨hp,hB1⟩;rw [As]at hp;have hBB:Below B w w1:=hB1.mono hBw;cases hm:fI ws with
 |none=>
  rw [hm]at hp;subst hp;refine⟨_,_,_,_,rfl,?_⟩;intro J hJ;exact ac.no rfl (hJ w1 ⟨false,rfl,rfl,hBB⟩)
 |some m=>
  rw [hm]at hp;obtain⟨ra,rc,rfl,hrow⟩:=hp;refine⟨_,_,_,_,rfl,?_⟩;intro J hJ;refine ac.yes rfl ?_;rintro w3 rfl;have hR3:eI B b x s k w1.drew:=(hR.on hB1).on ((Below.refl _ _).drew);have hns:([m.1,m.2]:List Int).length=2:=rfl;refine af.mk ⟨b,0,none⟩ rfl ⟨_,_,_,(aH (j:=5) hR3.blk).trans rfl,?_⟩;obtain⟨p0,hp0,hlt0,hc0⟩:=hrow 0 _ rfl;obtain⟨p1,hp1,hlt1,hc1⟩:=hrow 1 _ rfl;refine af.mk p0 hp0 ⟨by simp,by simp,m.1,hc0,?_⟩;refine af.mk p1 hp1 ⟨by simp,by simp,m.2,hc1,?_⟩;rintro w4 rfl;have hR4:=hR3.on (ah w1.drew (.cells (aP m).toArray Jc));refine⟨⟨(aH (j:=5) hR4.blk).trans rfl,trivial⟩,?_⟩;obtain⟨a',c',w5,hr,hcc,hf,hk⟩:=JO hR3 hs.2.2.2.2 m;refine⟨a',_,c',w5,hr,?_⟩;refine af.mk ⟨b,0,none⟩ rfl ⟨rfl,hcc,hf,?_⟩;intro w6 hw6;obtain⟨k1,k2⟩:=hk w6 hw6;exact hJ w6 ⟨true,rfl,⟨rfl,_,k1⟩,k2 w hBB.drew⟩
theorem tK (B b:Nat) (x:aY) (s:ak) (k:Int) (a:Option Addr) (c:Nat) (ws:List Bs) (w:World) (hR:eI B b x s k w) (hs:gj s) (h:dm w a ws) (hl:∀x∈ws,x.length≤1000000) (hn:ws.length≤1000000):
  CP 235 #[.pointer (some ⟨b,0,none⟩),.slice a ws.length c] w fun e w'=>∃ok,e= .returned (.bool ok)∧gU B b ((ud ws).map fun m=>{s with tokens:=s.tokens++ [m]}) k ok w'∧Below B w w':=by
 refine aN (Ca (some ⟨b,0,none⟩) a ws.length c w) ?_;have hBw:B≤w.heap.size:=Nat.le_trans hR.hB (Nat.le_of_lt hR.lt);refine ac.mk ?_ ?_
 ·intro hc;have hc:(ws.length:Int)≠1:=by simpa using hc
  refine⟨false,rfl,?_,Below.refl _ _⟩
  match ws,hc with
  | [],_=>rfl
  |_::_::_,_=>rfl
  | [_],hc=>simp at hc
 ·intro hc;have hc:(ws.length:Int)=1:=by simpa using hc
  match ws,hc,h,hl with
  | [t],_,h,hl=>
   obtain⟨p,hp,_,hcp⟩:=h 0 _ rfl;refine af.mk p hp ⟨by simp,by simp,str t,hcp,?_⟩;have htl:=hl t (by simp);refine(rD t w (by omega)).mono ?_;rintro e w1 ⟨rfl,hB1⟩;have hBB:Below B w w1:=hB1.mono hBw;have hR1:=hR.on hB1;have fin:∀(o:Option Bs) (u:Bs) (q:Bool),(∀m,o=some m→u=m∧q=true)→(o=none→q=false)→
    af (some ⟨b,0,none⟩) (fun pa_1=>
     ∃lA_2:Option Addr,∃lN_3:Nat,∃lC_4:Nat,w1.cell? ((pa_1.add 0).add 2)=some (Value.slice lA_2 lN_3 lC_4)∧
     ∀w2:World,w2=w1.alloc (.cells #[Value.string (str u)] fE)→
     ∃lA_5:Option Addr,∃lN_6:Nat,∃lC_7:Nat,∃w3:World,(Builtin.append_ #[ft,ft] ft #[Value.slice lA_2 lN_3 lC_4,Value.slice (some (nb w1)) 1 1]).run Tryz.prog w2= .ok (Value.slice lA_5 lN_6 lC_7) w3∧
     af (some ⟨b,0,none⟩) (fun pa_8=>
     (Value.slice lA_5 lN_6 lC_7).oneCell'=true∧(∃u,w3.cell? ((pa_8.add 0).add 2)=some u)∧w3.frozen? ((pa_8.add 0).add 2)=false∧
     ∀w4:World,w4=(w3.setCell ((pa_8.add 0).add 2) (Value.slice lA_5 lN_6 lC_7))→
     ∃ok,Ending.returned (Value.bool q)= .returned (.bool ok)∧gU B b (o.map fun m=>{s with tokens:=s.tokens++ [m]}) k ok w4∧Below B w w4)):=by
    intro o u q h1 h2;refine af.mk ⟨b,0,none⟩ rfl ⟨_,_,_,(aH (j:=2) hR1.blk).trans rfl,?_⟩;rintro w2 rfl;obtain⟨a',c',w5,hr,hcc,hf,hk⟩:=Kr hR1 hs.2.1 u;refine⟨a',_,c',w5,hr,?_⟩;refine af.mk ⟨b,0,none⟩ rfl ⟨rfl,hcc,hf,?_⟩;intro w6 hw6;obtain⟨k1,k2⟩:=hk w6 hw6;refine⟨q,rfl,?_,k2 w hBB⟩;cases o with
    |none=>exact h2 rfl
    |some m=>
     obtain⟨rfl,hq⟩:=h1 m rfl;exact⟨hq,_,k1⟩
   show ∃r0:ByteArray,∃r1:Bool,_;cases hu:dM t with
   |none=>exact⟨str [],false,rfl,fin _ [] false (by simp [ud,hu]) (fun _=>rfl)⟩
   |some m=>exact⟨str m,true,rfl,fin _ m true (by simp [ud,hu]) (by simp [ud,hu])⟩
theorem qA (B b:Nat) (x:aY) (s:ak) (k:Int) (a:Option Addr) (c:Nat) (ws:List Bs) (w:World) (hR:eI B b x s k w) (hs:gj s) (h:dm w a ws) (hl:∀x∈ws,x.length≤1000000) (hn:ws.length≤1000000) (ht:C0 w) (he:nW w):
  CP 236 #[.pointer (some ⟨b,0,none⟩),.slice a ws.length c] w fun e w'=>∃ok,e= .returned (.bool ok)∧gU B b ((gF ws).map fun m=>{s with specials:=s.specials++ [m]}) k ok w'∧Below B w w':=by
 refine aN (yI (some ⟨b,0,none⟩) a ws.length c w) ?_;have hBw:B≤w.heap.size:=Nat.le_trans hR.hB (Nat.le_of_lt hR.lt);refine ac.mk ?_ ?_
 ·intro hc;have hc:(ws.length:Int)≠2:=by simpa using hc
  refine⟨false,rfl,?_,Below.refl _ _⟩
  match ws,hc with
  | [],_=>rfl
  | [_],_=>rfl
  |_::_::_::_,_=>rfl
  | [_,_],hc=>simp at hc
 ·intro hc;have hc:(ws.length:Int)=2:=by simpa using hc
  match ws,hc,h,hl with
  | [t,t2],_,h,hl=>
   obtain⟨p,hp,_,hcp⟩:=h 0 _ rfl;refine af.mk p hp ⟨by simp,by simp,str t,hcp,?_⟩;have htl:=hl t (by simp);refine(tg t d_ w (by omega) ht he).mono ?_;rintro e w1 ⟨rfl,hB1⟩;obtain⟨p2,hp2,_,hcp2⟩:=(h.on hB1) 1 _ rfl;have hw:dP t=(fY t d_).map fun u=>(u:Int):=rfl;have tail:∀(n:Int) (q1:Bool),(dP t=some n∧q1=true)∨(dP t=none∧q1=false)→
     af a (fun pa_1=>
      (0:Int)≤1∧1< (([t,t2].length:Nat):Int)∧
      ∃s_2:ByteArray,w1.cell? (pa_1.add ((1:Int).toNat*1))=some (Value.string s_2)∧
      CP 269 #[Value.string s_2] w1 (fun e2 w2=>
      ∃r0_3:ByteArray,∃r1_4:Bool,e2= .returned (Value.tuple #[Value.string r0_3,Value.bool r1_4])∧
      af (some ⟨b,0,none⟩) (fun pa_5=>
      ∃lA_6:Option Addr,∃lN_7:Nat,∃lC_8:Nat,w2.cell? ((pa_5.add 0).add 3)=some (Value.slice lA_6 lN_7 lC_8)∧
      ∀w3:World,w3=w2.alloc (.cells #[Value.int .i64 n,Value.string r0_3] nr)→
      ∃lA_9:Option Addr,∃lN_10:Nat,∃lC_11:Nat,∃w4:World,(Builtin.append_ #[25,25] 25 #[Value.slice lA_6 lN_7 lC_8,Value.slice (some (nb w2)) 1 1]).run Tryz.prog w3= .ok (Value.slice lA_9 lN_10 lC_11) w4∧
      af (some ⟨b,0,none⟩) (fun pa_12=>
      (Value.slice lA_9 lN_10 lC_11).oneCell'=true∧(∃u,w4.cell? ((pa_12.add 0).add 3)=some u)∧w4.frozen? ((pa_12.add 0).add 3)=false∧
      ∀w5:World,w5=(w4.setCell ((pa_12.add 0).add 3) (Value.slice lA_9 lN_10 lC_11))→
      ac q1
       (∃ok,Ending.returned (Value.bool r1_4)= .returned (.bool ok)∧gU B b ((gF [t,t2]).map fun m=>{s with specials:=s.specials++ [m]}) k ok w5∧Below B w w5)
       (∃ok,Ending.returned (Value.bool false)= .returned (.bool ok)∧gU B b ((gF [t,t2]).map fun m=>{s with specials:=s.specials++ [m]}) k ok w5∧Below B w w5))))):=by
    intro n q1 hq;refine af.mk p2 hp2 ⟨by simp,by simp,str t2,hcp2,?_⟩;have htl2:=hl t2 (by simp);refine(rD t2 w1 (by omega)).mono ?_;rintro e w2 ⟨rfl,hB2⟩;have hB12:=ae hB1 hB2;have hBB:Below B w w2:=hB12.mono hBw;have hR2:=hR.on hB12;have fin:∀(u:Bs) (q:Bool),(dM t2=some u∧q=true)∨(dM t2=none∧q=false)→
      af (some ⟨b,0,none⟩) (fun pa_5=>
      ∃lA_6:Option Addr,∃lN_7:Nat,∃lC_8:Nat,w2.cell? ((pa_5.add 0).add 3)=some (Value.slice lA_6 lN_7 lC_8)∧
      ∀w3:World,w3=w2.alloc (.cells #[Value.int .i64 n,Value.string (str u)] nr)→
      ∃lA_9:Option Addr,∃lN_10:Nat,∃lC_11:Nat,∃w4:World,(Builtin.append_ #[25,25] 25 #[Value.slice lA_6 lN_7 lC_8,Value.slice (some (nb w2)) 1 1]).run Tryz.prog w3= .ok (Value.slice lA_9 lN_10 lC_11) w4∧
      af (some ⟨b,0,none⟩) (fun pa_12=>
      (Value.slice lA_9 lN_10 lC_11).oneCell'=true∧(∃u,w4.cell? ((pa_12.add 0).add 3)=some u)∧w4.frozen? ((pa_12.add 0).add 3)=false∧
      ∀w5:World,w5=(w4.setCell ((pa_12.add 0).add 3) (Value.slice lA_9 lN_10 lC_11))→
      ac q1
       (∃ok,Ending.returned (Value.bool q)= .returned (.bool ok)∧gU B b ((gF [t,t2]).map fun m=>{s with specials:=s.specials++ [m]}) k ok w5∧Below B w w5)
       (∃ok,Ending.returned (Value.bool false)= .returned (.bool ok)∧gU B b ((gF [t,t2]).map fun m=>{s with specials:=s.specials++ [m]}) k ok w5∧Below B w w5))):=by
     intro u q hqq;refine af.mk ⟨b,0,none⟩ rfl ⟨_,_,_,(aH (j:=3) hR2.blk).trans rfl,?_⟩;rintro w3 rfl;obtain⟨a',c',w5,hr,hcc,hf,hk⟩:=Jm hR2 hs.2.2.1 (n,u);refine⟨a',_,c',w5,hr,?_⟩;refine af.mk ⟨b,0,none⟩ rfl ⟨rfl,hcc,hf,?_⟩;intro w6 hw6;obtain⟨k1,k2⟩:=hk w6 hw6;have hk2:=k2 w hBB;rcases hq with⟨h1,rfl⟩ |⟨h1,rfl⟩
     ·refine ac.yes rfl ⟨q,rfl,?_,hk2⟩;rcases hqq with⟨h2,rfl⟩ |⟨h2,rfl⟩
      ·simp only [gF,h1,h2];exact⟨rfl,_,k1⟩
      ·simp only [gF,h1,h2];rfl
     ·refine ac.no rfl ⟨false,rfl,?_,hk2⟩;simp only [gF,h1];rfl
    cases hu:dM t2 with
    |none=>exact⟨str [],false,rfl,fin [] false (.inr ⟨hu,rfl⟩)⟩
    |some m=>exact⟨str m,true,rfl,fin m true (.inl ⟨hu,rfl⟩)⟩
   cases hp:fY t d_ with
   |none=>exact⟨0,false,rfl,tail 0 false (.inr ⟨by rw [hw,hp];rfl,rfl⟩)⟩
   |some u=>exact⟨(u:Int),true,rfl,tail u true (.inl ⟨by rw [hw,hp];rfl,rfl⟩)⟩
theorem qo {w:World} {a p:Addr} {u:Value} (h:p.block≠a.block):(w.setCell a u).cell? p=w.cell? p:=by
 unfold World.cell?;rw [aq h]
noncomputable def uY (l:List Bs):Option Bool:=if l= [jP]then some true else if l= [gA]then some false else none
theorem vt (B b:Nat) (x:aY) (s:ak) (k:Int) (a:Option Addr) (c:Nat) (ws:List Bs) (w:World) (hR:eI B b x s k w) (h:dm w a ws) (hoff:∀p,a=some p→p.block≠b) (hn:ws.length≤1000000):
  CP 233 #[.pointer (some ⟨b,0,none⟩),.slice a ws.length c] w fun e w'=>∃ok,e= .returned (.bool ok)∧gU B b ((uY ws).map fun q=>{s with ranked:=q}) k ok w'∧Below B w w':=by
 refine aN (AI (some ⟨b,0,none⟩) a ws.length c w) ?_;have put:∀q:Bool,∀w1,w1=w.setCell (((⟨b,0,none⟩:Addr).add 0).add 0) (.bool q)→eI B b {x with ranked:=q} {s with ranked:=q} k w1∧Below B w w1:=by
  intro q w1 hw1;rw [au]at hw1;subst hw1;refine⟨⟨hR.hB,(bF (j:=0) hR.blk _).trans rfl,rfl,hR.rows.setCell _ _ (by rw [av];exact hR.off),hR.off⟩,bv (Below.refl _ _) hR.hB _⟩
 have c0:w.cell? (((⟨b,0,none⟩:Addr).add 0).add 0)=some (.bool x.ranked):=by rw [au];exact(aH (j:=0) hR.blk).trans rfl
 have f0:w.frozen? (((⟨b,0,none⟩:Addr).add 0).add 0)=false:=by rw [au];exact be hR.blk
 refine ac.mk ?_ ?_
 ·intro hc;have hc1:(ws.length:Int)=1:=by simpa using hc
  match ws,hc1,hc,h with
  | [t],_,hc,h=>
   obtain⟨p,hp,_,hcp⟩:=h 0 _ rfl;have hpb:=hoff p hp;refine af.mk p hp ⟨by simp,by simp,str t,hcp,?_⟩;refine af.mk ⟨b,0,none⟩ rfl ⟨rfl,⟨_,c0⟩,f0,?_⟩;have eR:((str t).toList==(⟨#[114,97,110,107,115]⟩:ByteArray).toList)=decide (t=jP):=by rw [show(⟨#[114,97,110,107,115]⟩:ByteArray)=str jP from rfl,eG]
   have eM:((str t).toList==(⟨#[109,101,114,103,101,115]⟩:ByteArray).toList)=decide (t=gA):=by rw [show(⟨#[109,101,114,103,101,115]⟩:ByteArray)=str gA from rfl,eG]
   rw [eR];intro w1 hw1;obtain⟨hR1,hB1⟩:=put _ w1 hw1;have hc1:w1.cell? (p.add 0)=some (.string (str t)):=by
    rw [hw1,qo (by rw [av,av,av];exact hpb)];exact hcp
   refine ac.yes hc (af.mk p hp ⟨by simp,by simp,str t,hc1,?_⟩);rw [eR];refine ac.mk ?_ ?_
   ·intro ht;have ht:=of_decide_eq_true ht;subst ht;refine⟨true,rfl,?_,hB1⟩;unfold uY;rw [if_pos rfl];exact⟨rfl,_,hR1⟩
   ·intro ht;have ht':=of_decide_eq_false ht;refine af.mk p hp ⟨by simp,by simp,str t,hc1,?_⟩;rw [eM];refine⟨_,rfl,?_,hB1⟩;unfold uY;rw [if_neg (by simpa using ht')];by_cases hm:t=gA
    ·rw [if_pos (by simpa using hm)];rw [ht]at hR1;exact⟨by simpa using hm,_,hR1⟩
    ·rw [if_neg (by simpa using hm)];exact decide_eq_false hm
 ·intro hc;have hc1:(ws.length:Int)≠1:=by simpa using hc
  refine af.mk ⟨b,0,none⟩ rfl ⟨rfl,⟨_,c0⟩,f0,?_⟩;intro w2 hw2;obtain⟨hR1,hB1⟩:=put _ w2 hw2;refine ac.no hc ⟨false,rfl,?_,hB1⟩;unfold uY;rw [if_neg (by rintro rfl;simp at hc1),if_neg (by rintro rfl;simp at hc1)];rfl
def zR (B b:Nat) (o:Option (ak×Nat)) (k j:Int) (ok:Bool) (w':World):Prop:=match o with
 |some (s',j')=>ok=true∧j=j'∧∃x',eI B b x' s' k w'
 |none=>ok=false
theorem fy {B b:Nat} {o:Option ak} {k:Int} {n:Nat} {ok:Bool} {w':World} (h:gU B b o k ok w'):zR B b (o.map fun s=>(s,n)) k n ok w':=by
 cases o with
 |none=>exact h
 |some s=>exact⟨h.1,rfl,h.2⟩
theorem CQ (s:ak) (first:Bs) (l:List Bs):
  mn s (first::l)=if first=fe then((uY l).map fun q=>{s with ranked:=q}).map fun s=>(s,0)else if first=wMerge then((fI l).map fun m=>{s with merges:=s.merges++ [m]}).map fun s=>(s,1)
   else if first=wToken then((ud l).map fun m=>{s with tokens:=s.tokens++ [m]}).map fun s=>(s,1)else if first=wSpecial then((gF l).map fun m=>{s with specials:=s.specials++ [m]}).map fun s=>(s,2)
   else if first=wClass then((iY l).map fun m=>{s with classes:=s.classes++ [m]}).map fun s=>(s,3)else if first=wJoin then((fI l).map fun m=>{s with joins:=s.joins++ [m]}).map fun s=>(s,4)else none:=by
 unfold mn uY;simp only [Option.map_map];split
 ·split
  ·rfl
  ·split<;>rfl
 ·rfl
theorem vn (B b:Nat) (x:aY) (s:ak) (k:Int) (first:Bs) (a:Option Addr) (c:Nat) (ws:List Bs) (w:World) (hR:eI B b x s k w) (hs:gj s) (h:dm w a ws) (hoff:∀p,a=some p→p.block≠b) (hl:∀x∈ws,x.length≤1000000) (hn:ws.length≤1000000) (ht:C0 w) (he:nW w):
  CP 187 #[.pointer (some ⟨b,0,none⟩),.string (str first),.slice a ws.length c] w fun e w'=>∃(j:Int) (ok:Bool),e= .returned (.tuple #[.int .i64 j,.bool ok])∧zR B b (mn s (first::ws)) k j ok w'∧Below B w w':=by
 refine aN (zK (some ⟨b,0,none⟩) (str first) a ws.length c w) ?_;rw [CQ];have e1:((str first).toList==(⟨#[118,111,99,97,98]⟩:ByteArray).toList)=decide (first=fe):=by rw [show(⟨#[118,111,99,97,98]⟩:ByteArray)=str fe from rfl,eG]
 have e2:((str first).toList==(⟨#[109,101,114,103,101]⟩:ByteArray).toList)=decide (first=wMerge):=by rw [show(⟨#[109,101,114,103,101]⟩:ByteArray)=str wMerge from rfl,eG]
 have e3:((str first).toList==(⟨#[116,111,107,101,110]⟩:ByteArray).toList)=decide (first=wToken):=by rw [show(⟨#[116,111,107,101,110]⟩:ByteArray)=str wToken from rfl,eG]
 have e4:((str first).toList==(⟨#[115,112,101,99,105,97,108]⟩:ByteArray).toList)=decide (first=wSpecial):=by rw [show(⟨#[115,112,101,99,105,97,108]⟩:ByteArray)=str wSpecial from rfl,eG]
 have e5:((str first).toList==(⟨#[99,108,97,115,115]⟩:ByteArray).toList)=decide (first=wClass):=by rw [show(⟨#[99,108,97,115,115]⟩:ByteArray)=str wClass from rfl,eG]
 have e6:((str first).toList==(⟨#[106,111,105,110]⟩:ByteArray).toList)=decide (first=wJoin):=by rw [show(⟨#[106,111,105,110]⟩:ByteArray)=str wJoin from rfl,eG]
 refine ac.mk ?_ ?_
 ·intro hc;rw [e1]at hc;rw [if_pos (of_decide_eq_true hc)];refine(vt B b x s k a c ws w hR h hoff hn).mono ?_;rintro e w1 ⟨ok,rfl,hp,hB⟩;exact⟨ok,rfl,_,ok,rfl,fy (n:=0) hp,hB⟩
 intro hc;rw [e1]at hc;rw [if_neg (of_decide_eq_false hc)];refine ac.mk ?_ ?_
 ·intro hc;rw [e2]at hc;rw [if_pos (of_decide_eq_true hc)];refine(ub B b x s k a c ws w hR hs h hl hn ht he).mono ?_;rintro e w1 ⟨ok,rfl,hp,hB⟩;exact⟨ok,rfl,_,ok,rfl,fy (n:=1) hp,hB⟩
 intro hc;rw [e2]at hc;rw [if_neg (of_decide_eq_false hc)];refine ac.mk ?_ ?_
 ·intro hc;rw [e3]at hc;rw [if_pos (of_decide_eq_true hc)];refine(tK B b x s k a c ws w hR hs h hl hn).mono ?_;rintro e w1 ⟨ok,rfl,hp,hB⟩;exact⟨ok,rfl,_,ok,rfl,fy (n:=1) hp,hB⟩
 intro hc;rw [e3]at hc;rw [if_neg (of_decide_eq_false hc)];refine ac.mk ?_ ?_
 ·intro hc;rw [e4]at hc;rw [if_pos (of_decide_eq_true hc)];refine(qA B b x s k a c ws w hR hs h hl hn ht he).mono ?_;rintro e w1 ⟨ok,rfl,hp,hB⟩;exact⟨ok,rfl,_,ok,rfl,fy (n:=2) hp,hB⟩
 intro hc;rw [e4]at hc;rw [if_neg (of_decide_eq_false hc)];refine ac.mk ?_ ?_
 ·intro hc;rw [e5]at hc;rw [if_pos (of_decide_eq_true hc)];refine(tY B b x s k a c ws w hR hs h hl hn ht he).mono ?_;rintro e w1 ⟨ok,rfl,hp,hB⟩;exact⟨ok,rfl,_,ok,rfl,fy (n:=3) hp,hB⟩
 intro hc;rw [e5]at hc;rw [if_neg (of_decide_eq_false hc)];refine ac.mk ?_ ?_
 ·intro hc;rw [e6]at hc;rw [if_pos (of_decide_eq_true hc)];refine(vY B b x s k a c ws w hR hs h hl hn ht he).mono ?_;rintro e w1 ⟨ok,rfl,hp,hB⟩;exact⟨ok,rfl,_,ok,rfl,fy (n:=4) hp,hB⟩
 intro hc;rw [e6]at hc;rw [if_neg (of_decide_eq_false hc)];exact⟨0,false,rfl,rfl,Below.refl _ _⟩
theorem sy (c:UInt8) (l:Bs):∀w∈a_ c l,w.length≤l.length:=by
 induction l with
 |nil=>intro w hw;simp [a_]at hw;subst hw;simp
 |cons b l ih=>
  intro w hw;simp only [a_]at hw;split at hw
  ·rcases List.mem_cons.1 hw with e |e
   ·subst e;simp
   ·have:=ih w e;simp;omega
  ·cases hc:a_ c l with
   |nil=>exact absurd hc (hO c l)
   |cons x r=>
    rw [hc]at hw ih;rcases List.mem_cons.1 hw with e |e
    ·subst e;have:=ih x (by simp);simp;omega
    ·have:=ih w (by simp [e]);simp;omega
theorem rT (c:UInt8) (l:Bs):(a_ c l).length≤l.length+1:=by
 induction l with
 |nil=>simp [a_]
 |cons b l ih=>
  simp only [a_];split
  ·simp;omega
  ·cases hc:a_ c l with
   |nil=>simp
   |cons x r=>rw [hc]at ih;simp at ih⊢;omega
def GA (B b:Nat) (o:Option (ak×Nat)) (ok:Bool) (w':World):Prop:=match o with
 |some (s',j)=>ok=true∧∃x',eI B b x' s' j w'
 |none=>ok=false
theorem vz (B b:Nat) (x:aY) (s:ak) (k n:Nat) (line:Bs) (w:World) (hR:eI B b x s k w) (hs:gj s) (hl:line.length≤100000) (ht:C0 w) (he:nW w) (hm:Mx w):
  CP 129 #[.pointer (some ⟨b,0,none⟩),.int .i64 n,.string (str line)] w fun e w'=>∃ok:Bool,e= .returned (.bool ok)∧GA B b (dn s k n line) ok w'∧Below B w w':=by
 refine aN (AW (some ⟨b,0,none⟩) n (str line) w) ?_;have hBw:B≤w.heap.size:=Nat.le_trans hR.hB (Nat.le_of_lt hR.lt);refine(ML line w (by omega) hm).mono ?_;rintro e w1 ⟨rfl,hrow,hB1⟩;refine⟨_,_,_,rfl,?_⟩;rintro w2 rfl;have hB2:Below w.heap.size w w1.drew:=hB1.drew;have hR2:=hR.on hB2;have hrow2:dm w1.drew (some (nb w)) (a_ 32 line):=hrow;have hsm:=sy 32 line;have hct:=rT 32 line;obtain⟨first,ws,hcut⟩:∃f r,a_ 32 line=f::r:=by
  cases hc:a_ 32 line with
  |nil=>exact absurd hc (hO 32 line)
  |cons f r=>exact⟨f,r,rfl⟩
 have hln:dn s k n line=jg k n (mn s (first::ws)):=by unfold dn;rw [hcut]
 rw [hcut]at hrow2 hsm hct⊢;obtain⟨p,hp,_,hcp⟩:=hrow2 0 _ rfl;cases hp;refine af.mk (nb w) rfl ⟨by simp,by simp,str first,hcp,by simp,by simp;omega,trivial,trivial,trivial,?_⟩;have hlt:=hR.lt;have htail:∃a',cd (some (nb w)) (1:Int).toNat (((first::ws).length:Nat):Int).toNat 1=a'∧dm w1.drew a' ws∧∀p,a'=some p→p.block≠b:=by
  refine⟨_,rfl,?_,?_⟩
  ·intro j t hj;have hj':=(List.getElem?_eq_some_iff.1 hj).1;obtain⟨p,hp,hlt,hc⟩:=hrow2 (j+1) t (by simpa using hj);cases hp;have:cd (some (nb w)) (1:Int).toNat (((first::ws).length:Nat):Int).toNat 1=some ((nb w).add 1):=by
    unfold cd;rw [if_neg (by simp;intro e;rw [e]at hj';simp at hj')];rfl
   refine⟨_,this,by rw [av];exact hlt,?_⟩;rw [aB]at hc⊢;rw [aB];rw [←hc];congr 2;omega
  ·intro p hp;unfold cd at hp;split at hp
   ·cases hp;dsimp only;omega
   ·cases hp;rw [av];dsimp only;omega
 obtain⟨a',ha',hrow',hoff'⟩:=htail;rw [ha'];have hlen:(((first::ws).length:Nat):Int).toNat- (1:Int).toNat=ws.length:=by simp
 rw [hlen];have hB2B:Below B w w1.drew:=hB2.mono hBw;refine(vn B b x s k first a' _ ws w1.drew hR2 hs hrow' hoff' (fun y hy=>by have:=hsm y (by simp [hy]);omega) (by simp at hct;omega) (ht.on hB2) (he.on hB2)).mono ?_;rintro e w3 ⟨j,ok,rfl,hp,hB3⟩;have hB23:Below B w w3:=hB2B.trans hB3;refine⟨_,_,rfl,?_⟩;rw [hln];cases ha:mn s (first::ws)with
 |none=>
  rw [ha]at hp;have hp:ok=false:=hp;subst hp;exact ac.yes rfl ⟨false,rfl,rfl,hB23⟩
 |some sj=>
  obtain⟨s',j'⟩:=sj;rw [ha]at hp;obtain⟨rfl,rfl,x',hR'⟩:=hp;refine ac.no rfl ?_;simp only [jg];refine ac.mk ?_ ?_
  ·intro hc;refine⟨false,rfl,?_,hB23⟩;rw [if_neg ?_]
   ·rfl
   ·rintro⟨h1,_⟩;have:((n:Int)==0)=((j':Int)==0):=by
     rw [Bool.eq_iff_iff];simp;omega
    rw [this]at hc;simp at hc
  ·intro hc;have h1:n=0↔j'=0:=by
    simp at hc;rw [Bool.eq_iff_iff]at hc;simp at hc;omega
   refine af.mk ⟨b,0,none⟩ rfl ⟨_,(aH (j:=6) hR'.blk).trans rfl,ac.mk ?_ ?_⟩
   ·intro hk;have hk:=of_decide_eq_true hk;refine⟨false,rfl,?_,hB23⟩;rw [if_neg (by omega)];rfl
   ·intro hk;have hk:=of_decide_eq_false hk;have cc:∀j v,(vC x' k)[j]? =some v→w3.cell? (((⟨b,0,none⟩:Addr).add 0).add j)=some v:=by
     intro j v hv;rw [au,aH hR'.blk,hv]
    refine af.mk ⟨b,0,none⟩ rfl ⟨x'.ranked,_,_,_,_,_,_,_,_,_,_,_,_,_,_,_,⟨?_,cc 1 _ rfl,cc 2 _ rfl,cc 3 _ rfl,cc 4 _ rfl,cc 5 _ rfl,trivial⟩,?_⟩
    ·rw [au];have:=aH (j:=0) hR'.blk;rw [au]at this;exact this
    refine(rF x' s' w3 hR'.spec).mono ?_;rintro e w4 ⟨rfl,hB4⟩;have hR4:=hR'.on hB4;have hB34:Below B w w4:=hB23.trans (hB4.mono (Nat.le_trans hR'.hB (Nat.le_of_lt hR'.lt)));refine⟨_,rfl,ac.mk ?_ ?_⟩
    ·intro hr;refine⟨false,rfl,?_,hB34⟩;rw [if_neg (by rintro⟨_,_,e⟩;rw [e]at hr;simp at hr)];rfl
    ·intro hr;have hr:s'.right=true:=by simpa using hr
     refine af.mk ⟨b,0,none⟩ rfl ⟨rfl,⟨_,(aH (j:=6) hR4.blk).trans rfl⟩,be hR4.blk,?_⟩;rintro w5 rfl;refine⟨true,rfl,?_,bv hB34 hR4.hB _⟩;rw [if_pos ⟨h1,by omega,hr⟩];refine⟨rfl,x',hR4.hB,(bF (j:=6) hR4.blk _).trans rfl,hR4.rk,hR4.rows.setCell _ _ (by rw [av];exact hR4.off),hR4.off⟩
theorem rA {α:Type} {enc:α→List Value} {sz:Nat} {w:World} {a:Option Addr}:Rw enc sz w a []:=by
 intro j x hj;simp at hj
theorem EQ (w:World):cI w fW {}:=⟨rfl,rfl,rA,rfl,rA,rfl,rA,rfl,rA,rfl,rA⟩
theorem rW {w w6:World} {c:Array Value} {T:TypeId} (R:Value→World→Prop) (n m:Int) (x:aY) (hblk:w6.heap[w.heap.size]? =some (.cells c T (0,0))) (hc:c.size=6)
  (hR:∀w7,(∀w0,Below w.heap.size w0 w6→Below w.heap.size w0 w7)→(∀j,j≠w.heap.size→w7.heap[j]? =w6.heap[j]?)→R (.tuple #[x.v,.int .i64 n,.int .i64 m]) w7):
  ax w6 (nb w) (fun w7=>
   ∃res0:Bool,∃res1A:Option Addr,∃res1N:Nat,∃res1C:Nat,∃res2A:Option Addr,∃res2N:Nat,∃res2C:Nat,∃res3A:Option Addr,∃res3N:Nat,∃res3C:Nat,∃res4A:Option Addr,∃res4N:Nat,∃res4C:Nat,∃res5A:Option Addr,∃res5N:Nat,∃res5C:Nat,(w7.cell? (nb w)=some (Value.bool res0)∧w7.cell? ((nb w).add 1)=some (Value.slice res1A res1N res1C)∧w7.cell? ((nb w).add 2)=some (Value.slice res2A res2N res2C)∧w7.cell? ((nb w).add 3)=some (Value.slice res3A res3N res3C)∧w7.cell? ((nb w).add 4)=some (Value.slice res4A res4N res4C)∧w7.cell? ((nb w).add 5)=some (Value.slice res5A res5N res5C)∧True)∧
   R (Value.tuple #[Value.agg #[Value.bool res0,Value.slice res1A res1N res1C,Value.slice res2A res2N res2C,Value.slice res3A res3N res3C,Value.slice res4A res4N res4C,Value.slice res5A res5N res5C],Value.int .i64 n,Value.int .i64 m]) w7)
   [Value.bool x.ranked,Value.slice x.s1.a x.s1.n x.s1.c,Value.slice x.s2.a x.s2.n x.s2.c,Value.slice x.s3.a x.s3.n x.s3.c,Value.slice x.s4.a x.s4.n x.s4.c,Value.slice x.s5.a x.s5.n x.s5.c] 0:=by
 refine eK _ 0 w6 c 0 hblk (by simp [hc]) (by intro v hv;simp at hv;rcases hv with rfl |rfl |rfl |rfl |rfl |rfl<;>rfl) ?_
 intro w7 h7 hne hsz hB;have h7':w7.heap[w.heap.size]? =some (.cells x.cells T (0,0)):=by
  rw [h7];congr 2;simp [ip,hc]
 have c0:w7.cell? (nb w)=some (Value.bool x.ranked):=by have:=aH (j:=0) h7';rw [au]at this;exact this.trans rfl
 exact⟨x.ranked,_,_,_,_,_,_,_,_,_,_,_,_,_,_,_,⟨c0,(aH (j:=1) h7').trans rfl,(aH (j:=2) h7').trans rfl,(aH (j:=3) h7').trans rfl,(aH (j:=4) h7').trans rfl,(aH (j:=5) h7').trans rfl,trivial⟩,hR w7 (fun w0 h=>hB _ w0 (Nat.le_refl _) h) hne⟩
def dV (t:Bs) (v:Value) (w':World):Prop:=
 if 60000<t.length then ∃x,v= .tuple #[x.v,.int .i64 0,.int .i64 3]∧cI w' x {}
 else match eN t with
  | .ok s=>∃x,v= .tuple #[x.v,.int .i64 0,.int .i64 0]∧cI w' x s
  | .error m=>∃x,v= .tuple #[x.v,.int .i64 m,.int .i64 2]∧cI w' x {}
theorem rU (t:Bs) (w:World) (ht:C0 w) (he:nW w) (hm:Mx w):
  CP 90 #[.string (str t)] w fun e w'=>∃v,e= .returned v∧dV t v w'∧Below w.heap.size w w':=by
 refine(CM (str t) w (fun v w'=>dV t v w'∧Below w.heap.size w w') ?_);intro w1 hw1;have hb1:Below w.heap.size w w1:=by rw [hw1];exact ah _ _
 have k1:w1.heap[w.heap.size]? =some (.cells fW.cells da (0,0)):=by rw [hw1];exact ap w _
 have hlt1:w.heap.size<w1.heap.size:=(Array.getElem?_eq_some_iff.1 k1).1;refine ac.mk ?_ ?_
 ·intro hc;have hc:=of_decide_eq_true hc;rw [aR]at hc;refine rW (fun v w'=>dV t v w'∧Below w.heap.size w w') 0 3 fW k1 rfl ?_;intro w7 hB hne;refine⟨?_,hB w hb1⟩;unfold dV;rw [if_pos (by omega)];exact⟨fW,rfl,EQ w7⟩
 ·intro hc;have hc:=of_decide_eq_false hc;rw [aR]at hc;refine(DA t w1 (by omega) (hm.on hb1)).mono ?_;rintro e w3 ⟨ra,rc,rfl,hrow,hB3⟩;refine⟨_,_,_,_,rfl,?_⟩;intro w4 hw4;have hlt3:w1.heap.size≤w3.heap.size:=hB3.size;have hb3:=ae hb1 hB3;have hb34:Below w3.heap.size w3 w4:=by rw [hw4];exact ah _ _
  have hR4:eI w3.heap.size w3.heap.size fW {} 0 w4:=by
   refine⟨Nat.le_refl _,by rw [hw4];exact ap w3 _,rfl,⟨?_,?_⟩,?_⟩
   ·intro r hr;simp at hr;rcases hr with rfl |rfl |rfl |rfl |rfl<;>exact cO _ _ _ _
   ·simp only [wt,List.pairwise_cons];refine⟨?_,?_,?_,?_,?_,List.Pairwise.nil⟩<;>(intro r' _ k hk;cases hk)
   ·intro r hr;simp at hr;rcases hr with rfl |rfl |rfl |rfl |rfl<;>(intro e;cases e)
  have hne0:=hO 10 t;have hlen:(a_ 10 t).dropLast.length=(a_ 10 t).length-1:=by simp
  have hpos:0< (a_ 10 t).length:=List.length_pos_iff.2 hne0;have hcnt:=rT 10 t;have hsm:=sy 10 t;have kk:∀ {w5:World},Below w3.heap.size w4 w5→w5.heap[w.heap.size]? =some (.cells fW.cells da (0,0)):=by
   intro w5 hB;rw [hB.block _ (by omega),hb34.block _ (by omega),hB3.block _ hlt1,k1]
  have bel:∀ {w5:World},Below w3.heap.size w4 w5→Below w.heap.size w w5:=fun hB=>ae hb3 (hb34.trans hB);have bad:∀(m:Nat) {w5:World},Below w3.heap.size w4 w5→eN t= .error m→∀z:Int,z=m→
    ax w5 (nb w) (fun w7=>
   ∃res0:Bool,∃res1A:Option Addr,∃res1N:Nat,∃res1C:Nat,∃res2A:Option Addr,∃res2N:Nat,∃res2C:Nat,∃res3A:Option Addr,∃res3N:Nat,∃res3C:Nat,∃res4A:Option Addr,∃res4N:Nat,∃res4C:Nat,∃res5A:Option Addr,∃res5N:Nat,∃res5C:Nat,(w7.cell? (nb w)=some (Value.bool res0)∧w7.cell? ((nb w).add 1)=some (Value.slice res1A res1N res1C)∧w7.cell? ((nb w).add 2)=some (Value.slice res2A res2N res2C)∧w7.cell? ((nb w).add 3)=some (Value.slice res3A res3N res3C)∧w7.cell? ((nb w).add 4)=some (Value.slice res4A res4N res4C)∧w7.cell? ((nb w).add 5)=some (Value.slice res5A res5N res5C)∧True)∧
   (fun v w'=>dV t v w'∧Below w.heap.size w w') (Value.tuple #[Value.agg #[Value.bool res0,Value.slice res1A res1N res1C,Value.slice res2A res2N res2C,Value.slice res3A res3N res3C,Value.slice res4A res4N res4C,Value.slice res5A res5N res5C],Value.int .i64 z,Value.int .i64 2]) w7)
   [Value.bool false,Value.slice none 0 0,Value.slice none 0 0,Value.slice none 0 0,Value.slice none 0 0,Value.slice none 0 0] 0:=by
   intro m w5 hB hp z hz;refine rW (fun v w'=>dV t v w'∧Below w.heap.size w w') z 2 fW (kk hB) rfl ?_;intro w7 hB7 hne;refine⟨?_,hB7 w (bel hB)⟩;unfold dV;rw [if_neg (by omega),hp];exact⟨fW,by rw [hz],EQ w7⟩
  intro I hI;refine bj (α:=aY×ak×Nat×World) ((a_ 10 t).length-1)
   (fun i y=>eI w3.heap.size w3.heap.size y.1 y.2.1 y.2.2.1 y.2.2.2∧gj y.2.1∧dj {} 0 0 (a_ 10 t).dropLast=dj y.2.1 y.2.2.1 i ((a_ 10 t).dropLast.drop i)∧Below w3.heap.size w4 y.2.2.2)
   (fun i y=>I [.int .i64 (i:Int),.int .i64 0,.int .i64 0] y.2.2.2) (fW,{},0,w4) ⟨hR4,by simp [gj],rfl,Below.refl _ _⟩ ?_ ?_
  ·rintro i hi ih ⟨x,s,k,w5⟩ ⟨hR,hs,hrd,hB⟩;dsimp only at hR hs hrd hB;refine hI _ _ _ _ (ac.yes (by simp;omega) ?_);have hi':i< (a_ 10 t).dropLast.length:=by omega
   have hb5:Below w3.heap.size w3 w5:=hb34.trans hB;obtain⟨p,hpa,_,hcp⟩:=(hrow.on hb5) i _ (List.getElem?_eq_getElem hi');refine af.mk p hpa ⟨by omega,by omega,str (a_ 10 t).dropLast[i],by simpa using hcp,?_⟩;have hll:(a_ 10 t).dropLast[i].length≤60000:=by
    have:=hsm _ (List.dropLast_subset _ (List.getElem_mem hi'));omega
   have hall:=bel hB;refine(vz _ _ x s k i (a_ 10 t).dropLast[i] w5 hR hs (by omega) (ht.on hall) (he.on hall) (hm.on hall)).mono ?_;rintro e w6 ⟨ok,rfl,hp,hB6⟩;rw [List.drop_eq_getElem_cons hi',dj]at hrd;refine⟨_,rfl,?_⟩;cases hr:dn s k i (a_ 10 t).dropLast[i]with
   |none=>
    rw [hr]at hp hrd;have hp:ok=false:=hp;subst hp;refine ac.yes rfl (Ar.ok64 (by omega) (by omega) ?_);exact bad (i+1) (hB.trans hB6) (by unfold eN;rw [hrd]) _ (by simp)
   |some sj=>
    obtain⟨s',j⟩:=sj;rw [hr]at hp hrd;obtain⟨rfl,x',hR'⟩:=hp;refine ac.no rfl (Ar.ok64 (by omega) (by omega) ?_);refine ih (x',s',j,w6) ⟨hR',?_,hrd,hB.trans hB6⟩;refine dc ?_;unfold dn jg at hr;split at hr
    ·cases hr
    ·split at hr
     ·rename_i hg;cases hr;exact hg.2.2
     ·cases hr
  ·rintro⟨x,s,k,w5⟩ ⟨hR,hs,hrd,hB⟩;dsimp only at hR hs hrd hB;refine hI _ _ _ _ (ac.no (by simp) ?_);rw [List.drop_eq_nil_of_le (by omega),dj]at hrd;refine ac.mk ?_ ?_
   ·intro hc1;have hc1:¬(a_ 10 t).getLast?=some []:=by simpa using hc1
    refine Ar.ok64 (by omega) (by omega) ?_;exact bad (a_ 10 t).length hB (by unfold eN;rw [hrd];dsimp only;rw [if_neg (fun h=>hc1 h.1)]) _ (by omega)
   ·intro hc1;have hc1:(a_ 10 t).getLast?=some []:=by simpa using hc1
    refine ac.mk ?_ ?_
    ·intro hc2;have hc2:(((a_ 10 t).length-1:Nat):Int)=0:=by simpa using hc2
     refine Ar.ok64 (by omega) (by omega) ?_;exact bad (a_ 10 t).length hB (by unfold eN;rw [hrd];dsimp only;rw [if_neg (fun h=>h.2 (List.eq_nil_of_length_eq_zero (by omega)))]) _ (by omega)
    ·intro hc2;have hc2:(((a_ 10 t).length-1:Nat):Int)≠0:=by simpa using hc2
     have cc:∀j v,(vC x k)[j]? =some v→w5.cell? (((nb w3).add 0).add j)=some v:=by
      intro j v hv;rw [au,aH hR.blk,hv]
     have cc0:w5.cell? ((nb w3).add 0)=some (.bool x.ranked):=(aH (j:=0) hR.blk).trans rfl;refine⟨x.ranked,_,_,_,_,_,_,_,_,_,_,_,_,_,_,_,⟨cc0,cc 1 _ rfl,cc 2 _ rfl,cc 3 _ rfl,cc 4 _ rfl,cc 5 _ rfl,trivial⟩,?_⟩;refine rW (fun v w'=>dV t v w'∧Below w.heap.size w w') 0 0 x (kk hB) rfl ?_;intro w7 hB7 hne;refine⟨?_,hB7 w (bel hB)⟩;unfold dV;rw [if_neg (by omega)];have hps:eN t= .ok s:=by
      unfold eN;rw [hrd];dsimp only;rw [if_pos ⟨hc1,fun h=>by rw [h]at hlen;simp at hlen;omega⟩]
     rw [hps];refine⟨x,rfl,?_⟩;have hsp:=hR.spec;have hsz:w5.heap.size≤w7.heap.size:=(hB7 w5 (Below.refl _ _)).size;have hoff:∀r∈wt x s,∀p,r.sl.a=some p→p.block≠w.heap.size:=by
      intro r hr p hp;have h1:r.blk=some p.block:=by
       unfold hU.blk Sl.v;rw [hp];rfl
      have:=(hR.rows.lt hr _ h1).1;omega
     exact⟨hsp.ranked,hsp.n1,hsp.r1.off hne hsz (hoff (row1 x.s1 s) (by simp)),hsp.n2,hsp.r2.off hne hsz (hoff (row2 x.s2 s) (by simp)),hsp.n3,hsp.r3.off hne hsz (hoff (xd x.s3 s) (by simp)),
      hsp.n4,hsp.r4.off hne hsz (hoff (xI x.s4 s) (by simp)),hsp.n5,hsp.r5.off hne hsz (hoff (BM x.s5 s) (by simp))⟩
theorem iy {i:Nat} (h:¬i<10):Lib.decDigits i=Lib.decDigits (i/10)++ [UInt8.ofNat (48+i%10)]:=by rw [Lib.decDigits,dif_neg h]
theorem GC:Lib.itoa 300= [51,48,48]:=by
 unfold Lib.itoa;rw [if_neg (by decide),show(300:Int).toNat=300 from rfl,iy (by decide),iy (by decide),Lib.decDigits_one (by decide)];rfl
structure rY (w:World):Prop where
 pow:C0 w
 errs:nW w
 mx:Mx w
theorem rY.on {w w':World} (h:rY w) (hb:Below w.heap.size w w'):rY w':=⟨h.pow.on hb,h.errs.on hb,h.mx.on hb⟩
section
variable {H:Type} {enc0:TypeId×Value→H} {w:World} {base:Nat} {spare:Nat→Bool} {held:Bool}
end
def wn (s:ak) (q:Int×Nat×Int):Int:=if q.1=1 then(q.2.1:Int)+2 else(q.2.1:Int)+(2+(s.merges.length:Int)+(s.tokens.length:Int))
def uL (w:World) (t:Bs) (v:Value) (w':World):Prop:=Below w.heap.size w w'∧if 60000<t.length then v= .tuple #[.pointer none,.int .i64 0,.int .i64 3]else match eN t with
 | .error m=>v= .tuple #[.pointer none,.int .i64 m,.int .i64 2]
 | .ok s=>match cC s with
  | .error q=>v= .tuple #[.pointer none,.int .i64 (wn s q),.int .i64 q.2.2]∧q.2.2≠0
  | .ok T=>∃p,v= .tuple #[.pointer (some ⟨p,0,none⟩),.int .i64 0,.int .i64 0]∧lw w.heap.size w' p s T
theorem AY {s:ak} {q:Int×Nat×Int} (h:cC s= .error q):q.1=1∨q.1=2:=by
 unfold cC at h;cases hl:kW s with
 |error r=>rw [hl]at h;cases h;exact .inl rfl
 |ok T=>
  rw [hl]at h;dsimp only at h;cases hm:bJ [] 0 s.specials with
  |some r=>rw [hm]at h;cases h;exact .inr rfl
  |none=>
   rw [hm]at h;dsimp only at h;cases hf:s.specials.findIdx? (fun y=>decide (y.1< (T.length:Int)))with
   |some i=>rw [hf]at h;cases h;exact .inr rfl
   |none=>rw [hf]at h;cases h
open Go Go.Value
def OD (a:OA) (b:ByteArray) (w:World) (R:RW):Prop:=
 ∀c:KW,(∀(d:Int) (f:OA) (g h:Nat) (i:World),(ac (decide (d< (b.size:Int)))
 (∀j:KW,(∀(k:Int) (l:OA) (m n:Nat) (o:World),(c [int .i64 k,slice l m n] o)→j [int .i64 k,slice l m n] o)→
 (0:Int)≤d∧d≤((b.size:Nat):Int)∧((b.size:Nat):Int)≤(b.size:Int)∧
 CP 173 #[pointer a,string (b.extract d.toNat ((b.size:Nat):Int).toNat)] i (fun p q=>
 ∃r s,p= .returned (tuple #[int .i64 r,bool s])∧
 ac (!s)
 ((0:Int)≤d∧d< (b.size:Int)∧
 ∀t,t=q.alloc (.cells #[int .i64 (IntKind.wrap .i64 (eu b d))] 3)→
 ∃u x y z,(Builtin.append_ #[28,28] 28 #[slice f g h,slice (some (nb q)) 1 1]).run Tryz.prog t= .ok (slice u x y) z∧
 Ar .i64 (d+1) (fun a1=>
 j [int .i64 a1,slice u x y] z))
 (CP 174 #[pointer a,int .i64 r] q (fun b1 c1=>
 ∃d1 e1 f1,b1= .returned (tuple #[agg #[int .i64 d1,string e1],bool f1])∧
 ∀g1,g1=c1.alloc (.cells #[int .i64 0,string ⟨#[]⟩] 87)→
 ax g1 (nb c1) (fun h1=>
 ∀i1,i1=h1.alloc (.cells #[int .i64 r] 3)→
 ∃j1 k1 l1 m1,(Builtin.append_ #[28,28] 28 #[slice f g h,slice (some (nb h1)) 1 1]).run Tryz.prog i1= .ok (slice j1 k1 l1) m1∧
 ∃n1,m1.cell? ((nb c1).add 1)=some (string n1)∧
 Ar .i64 (d+(n1.size:Int)) (fun o1=>
 j [int .i64 o1,slice j1 k1 l1] m1)) [int .i64 d1,string e1] 0))))
 (R (slice f g h) i))→c [int .i64 d,slice f g h] i)→
 c [int .i64 0,slice none 0 0] w
theorem yW (a:OA) (b:ByteArray) (w:World) (R:RW) (hh:OD a b w R):CR 119 #[pointer a,string b] w R:=
 az (fn:=Tryz.f119) (by kernel_rfl) (by kernel_rfl) (by kernel_rfl) (by kernel_rfl) (by kernel_rfl) hh
def P9 (a:OA) (b:ByteArray) (w:World) (R:RW):Prop:=
 ∀c,c=w.drew→
 ac (Option.isNone a)
 (R (tuple #[int .i64 0,bool false]) c)
 (ac (b.toList==(⟨#[]⟩:ByteArray).toList)
 (R (tuple #[int .i64 0,bool false]) c)
 ((0:Int)≤0∧0< (b.size:Int)∧
 af a (fun d=>
 (0:Int)≤(eu b 0)∧(eu b 0) < (256:Int)∧
 ∃f,c.cell? ((d.add 3).add ((eu b 0:Int).toNat*1))=some (bool f)∧
 ac (!f)
 (R (tuple #[int .i64 0,bool false]) c)
 (af a (fun g=>
 ∃h,c.cell? (g.add 259)=some (int .i64 h)∧
 ∃i j,(Builtin.min_ #[3,3] 3 #[int .i64 h,int .i64 (b.size:Int)]).run Tryz.prog c= .ok (int .i64 i) j∧
 ∀k:KW,(∀(l:Int) (m:Bool) (n:Int) (o:World),(ac (decide (l>0))
 (∀p,p=o.drew→
 af a (fun q=>
 ∃r,p.cell? (q.add 2)=some (map r)∧
 (0:Int)≤(0:Int)∧(0:Int)≤l∧l≤(b.size:Int)∧
 ∃s t u,(Instr.lookup 205 (map r) (string (b.extract (0:Int).toNat l.toNat)) true).run Tryz.prog p= .ok (tuple #[int .i64 s,bool t]) u∧
 ac t
 (CP 160 #[int .i64 s] u (fun x y=>
 ∃z,x= .returned (int .i64 z)∧
 R (tuple #[int .i64 z,bool true]) y))
 (Ar .i64 (l-1) (fun a1=>
 k [int .i64 a1,bool m,int .i64 n] u))))
 (R (tuple #[int .i64 0,bool false]) o))→k [int .i64 l,bool m,int .i64 n] o)→
 k [int .i64 i,bool false,int .i64 0] j)))))
theorem Cc (a:OA) (b:ByteArray) (w:World) (R:RW) (hh:P9 a b w R):CR 173 #[pointer a,string b] w R:=
 az (fn:=Tryz.f173) (by kernel_rfl) (by kernel_rfl) (by kernel_rfl) (by kernel_rfl) (by kernel_rfl) hh
def OX (a b:OA) (c d:Nat) (w:World) (R:RW):Prop:=
 ∀f,f=w.alloc (.cells #[pointer a] 31)→
 ∀g,g=f.alloc (.cells #[slice b c d] 28)→
 R (func (.func 260) #[] #[pointer (some (nb f)),pointer (some (nb w))]) g
theorem xy (a b:OA) (c d:Nat) (w:World) (R:RW) (hh:OX a b c d w R):CR 224 #[pointer a,slice b c d] w R:=
 az (fn:=Tryz.f224) (by kernel_rfl) (by kernel_rfl) (by kernel_rfl) (by kernel_rfl) (by kernel_rfl) hh
def Pw (a b:OA) (c d:Nat) (w:World) (R:RW):Prop:=
 af b (fun f=>
 (0:Int)≤0∧0< (c:Int)∧
 ∃g,w.cell? (f.add ((0:Int).toNat*1))=some (int .i64 g)∧
 ac (decide (g<0))
 (∀h,h=w.drew→
 af b (fun i=>
 (0:Int)≤0∧0< (c:Int)∧
 ∃j,h.cell? (i.add ((0:Int).toNat*1))=some (int .i64 j)∧
 CP 56 #[pointer a] h (fun k l=>
 ∃m,k= .returned (pointer m)∧
 (l.cell? (i.add ((0:Int).toNat*1))=some (int .i64 j)∧True)∧
 CP 262 #[pointer m,int .i64 j] l (fun n o=>
 ∃p q,n= .returned (tuple #[int .i64 p,bool q])∧
 ∀r,r=o.alloc (.cells #[int .i64 p] 3)→
 R (slice (some (nb o)) 1 1) r))))
 (CP 54 #[pointer a] w (fun s t=>
 ∃u,s= .returned (pointer u)∧
 CP 263 #[slice b c d] t (fun x y=>
 ∃z,x= .returned (string z)∧
 CP 164 #[pointer u,string z] y (fun a1 b1=>
 ∃c1 d1 e1,a1= .returned (slice c1 d1 e1)∧
 R (slice c1 d1 e1) b1)))))
theorem Bx (a b:OA) (c d:Nat) (w:World) (R:RW) (hh:Pw a b c d w R):CR 225 #[pointer a,slice b c d] w R:=
 az (fn:=Tryz.f225) (by kernel_rfl) (by kernel_rfl) (by kernel_rfl) (by kernel_rfl) (by kernel_rfl) hh
def PF (a b:OA) (c d:Nat) (w:World) (R:RW):Prop:=
 af b (fun f=>
 (0:Int)≤0∧0< (c:Int)∧
 ∃g,w.cell? (f.add ((0:Int).toNat*1))=some (int .i64 g)∧
 ac (decide (g<0))
 (R (int .i64 1) w)
 (∀h:KW,(∀(i j:Int) (k:World),(ac (decide (i< (c:Int)))
 (∀l,l=k.drew→
 af b (fun m=>
 (0:Int)≤i∧i< (c:Int)∧
 ∃n,l.cell? (m.add (i.toNat*1))=some (int .i64 n)∧
 ac (decide (n<0))
 (R (int .i64 i) l)
 (Ar .i64 (i-1) (fun o=>
 af b (fun p=>
 (0:Int)≤o∧o< (c:Int)∧
 ∃q,l.cell? (p.add (o.toNat*1))=some (int .i64 q)∧
 af b (fun r=>
 (0:Int)≤i∧i< (c:Int)∧
 ∃s,l.cell? (r.add (i.toNat*1))=some (int .i64 s)∧
 CP 55 #[pointer a] l (fun t u=>
 ∃x,t= .returned (pointer x)∧
 (u.cell? (r.add (i.toNat*1))=some (int .i64 s)∧True)∧
 (u.cell? (p.add (o.toNat*1))=some (int .i64 q)∧True)∧
 CP 227 #[pointer x,int .u8 (IntKind.wrap .u8 q),int .u8 (IntKind.wrap .u8 s)] u (fun y z=>
 ∃a1,y= .returned (bool a1)∧
 ac a1
 (R (int .i64 i) z)
 (Ar .i64 (i+1) (fun b1=>
 h [int .i64 b1,int .i64 j] z))))))))))
 (R (int .i64 (c:Int)) k))→h [int .i64 i,int .i64 j] k)→
 h [int .i64 1,int .i64 0] w))
theorem wZ (a b:OA) (c d:Nat) (w:World) (R:RW) (hh:PF a b c d w R):CR 261 #[pointer a,slice b c d] w R:=
 az (fn:=Tryz.f261) (by kernel_rfl) (by kernel_rfl) (by kernel_rfl) (by kernel_rfl) (by kernel_rfl) hh
def NG (a:OA) (b c:Nat) (w:World) (R:RW):Prop:=
 ∃d f g h,(Instr.makeSlice 57 (int .i64 0) (int .i64 (b:Int))).run Tryz.prog w= .ok (slice d f g) h∧
 ∀i:KW,(∀(j:Int) (k:OA) (l m:Nat) (n:World),(ac (decide (j< (b:Int)))
 (af a (fun o=>
 (0:Int)≤j∧j< (b:Int)∧
 ∃p,n.cell? (o.add (j.toNat*1))=some (int .i64 p)∧
 ∀q,q=n.alloc (.cells #[int .u8 (IntKind.wrap .u8 p)] 5)→
 ∃r s t u,(Builtin.append_ #[57,57] 57 #[slice k l m,slice (some (nb n)) 1 1]).run Tryz.prog q= .ok (slice r s t) u∧
 Ar .i64 (j+1) (fun x=>
 i [int .i64 x,slice r s t] u)))
 (∃y z,(convert 57 9 (slice k l m)).run Tryz.prog n= .ok (string y) z∧
 R (string y) z))→i [int .i64 j,slice k l m] n)→
 i [int .i64 0,slice d f g] h
theorem zQ (a:OA) (b c:Nat) (w:World) (R:RW) (hh:NG a b c w R):CR 263 #[slice a b c] w R:=
 az (fn:=Tryz.f263) (by kernel_rfl) (by kernel_rfl) (by kernel_rfl) (by kernel_rfl) (by kernel_rfl) hh
end Go.Proofs.YtijbcdiffjjefaaGreatDoor.Eng
