/- Sifted out of this repo's own templates by tool/sift.py. -/
import Derived.Test.YtijbcdiffjjefaaGreatDoorZtRw
import Derived.Test.YtijbcdiffjjefaaGreatDoorZtSh
import Derived.Below
import Derived.Lib.SplitLaws
import Derived.Lib.CountLaws
import Derived.Lib.Split
import Derived.Lib.Join
import Derived.Lib.ItoaNum
import Derived.Lib.AtoiAll
import Derived.Lib.ItoaMem
import Derived.Laws.MakeOwn
import Derived.Lib.AppendIntMem
import Derived.Lib.AtoiErrMem
import Derived.Lib.AppendStr
import Derived.Shelf.Strings.Builder1
set_option linter.unusedVariables false
set_option linter.unusedSimpArgs false
set_option maxRecDepth 100000
namespace Go.Proofs.YtijbcdiffjjefaaGreatDoor.Eng
open Go Go.RowKit Go.ChangeShapes Go.WideShapes
def nc (b:UInt8):Option Nat:=
 if 48≤b.toNat∧b.toNat≤57 then some (b.toNat-48)else if 97≤b.toNat∧b.toNat≤102 then some (b.toNat-87)else none
def pairs:List UInt8→Option (List UInt8)
 | []=>some []
 | [_]=>none
 |a::b::l=>match nc a,nc b,pairs l with
  |some x,some y,some r=>some (UInt8.ofNat (16*x+y)::r)
  |_,_,_=>none
def cB (l:List UInt8):Option (List UInt8):=if l= [45]then some []else if l= []then none else pairs l
theorem CX {p:UInt8→Prop} (h:∀n:Fin 256,p (UInt8.ofNat n.val)) (b:UInt8):p b:=by
 have:=h ⟨b.toNat,b.toNat_lt⟩;simpa using this
theorem lZ:∀b n,nc b=some n→n<16:=by
 intro b n h;unfold nc at h;split at h
 ·cases h;omega
 ·split at h
  ·cases h;omega
  ·cases h
theorem zy:∀n:Fin 16,nc (hx n.val)=some n.val:=by decide
theorem DX (n:Nat) (h:n<16):nc (hx n)=some n:=zy ⟨n,h⟩
theorem zh:∀n:Fin 256,∀k:Fin 16,nc (UInt8.ofNat n.val)=some k.val→hx k.val=UInt8.ofNat n.val:=by decide+kernel
theorem C_ (b:UInt8) (n:Nat) (h:nc b=some n):hx n=b:=
 CX (p:=fun b=>∀n,nc b=some n→hx n=b) (fun k n h=>zh k ⟨n,lZ _ n h⟩ h) b n h
theorem qD (a b:List UInt8):bZ (a++b)=bZ a++bZ b:=by
 induction a with
 |nil=>rfl
 |cons x a ih=>simp [bZ,ih]
theorem dU (l:List UInt8):(bZ l).length=2*l.length:=by
 induction l with
 |nil=>rfl
 |cons b l ih=>simp [bZ,ih];omega
theorem Bd (l:List UInt8):pairs (bZ l)=some l:=by
 induction l with
 |nil=>rfl
 |cons b l ih=>
  have hb:=b.toNat_lt;simp only [bZ,pairs,DX _ (show b.toNat/16<16 by omega),DX _ (show b.toNat%16<16 by omega),ih];rw [Nat.div_add_mod b.toNat 16];simp
theorem Bf (n:Nat):∀(l:List UInt8),l.length≤n→∀r,pairs l=some r→bZ r=l:=by
 induction n with
 |zero=>
  intro l hl r h;cases l with
  |nil=>simp [pairs]at h;subst h;rfl
  |cons a l=>simp at hl
 |succ n ih=>
  intro l hl r h
  match l,hl,h with
  | [],_,h=>simp [pairs]at h;subst h;rfl
  | [_],_,h=>simp [pairs]at h
  |a::b::l,hl,h=>
   simp only [pairs]at h;split at h
   ·rename_i x y r' hx' hy hr;cases h;have h1:=lZ _ _ hx';have h2:=lZ _ _ hy;have hval:(UInt8.ofNat (16*x+y)).toNat=16*x+y:=by simp;omega
    simp only [bZ,hval];rw [show(16*x+y)/16=x by omega,show(16*x+y)%16=y by omega,C_ _ _ hx',C_ _ _ hy,ih l (by simp at hl;omega) _ hr]
   ·cases h
theorem sK (l:List UInt8):cB (gv l)=some l:=by
 unfold gv;split
 ·rename_i h;subst h;rfl
 ·rename_i h;have hlen:=dU l;unfold cB;rw [if_neg,if_neg,Bd]
  ·intro e;rw [e]at hlen;simp at hlen;exact h (List.eq_nil_of_length_eq_zero (by omega))
  ·intro e;rw [e]at hlen;simp at hlen;omega
theorem iT (l r:List UInt8) (h:cB l=some r):gv r=l:=by
 unfold cB at h;split at h
 ·rename_i e;subst e;cases h;rfl
 ·rename_i e;split at h
  ·cases h
  ·rename_i e2;have hb:=Bf l.length l (Nat.le_refl _) r h;unfold gv;rw [if_neg,hb];intro e3;subst e3;exact e2 hb.symm
def aw (c:UInt8):List UInt8→List (List UInt8)
 | []=>[[]]
 |b::l=>if b=c then []::aw c l else match aw c l with
  |h::t=>(b::h)::t
  | []=>[[b]]
theorem eJ (c:UInt8) (l:List UInt8):aw c l≠ []:=by
 cases l with
 |nil=>simp [aw]
 |cons b l=>
  simp only [aw];split
  ·simp
  ·split<;>simp
theorem rA (c b:UInt8) (l:List UInt8):Lib.index (b::l) [c]=if b=c then 0 else if Lib.index l [c]= -1 then -1 else Lib.index l [c]+1:=by
 rw [Lib.index];by_cases h:b=c
 ·subst h;simp [List.isPrefixOf]
 ·have:¬c=b:=fun e=>h e.symm;simp [List.isPrefixOf,h,this]
theorem nC (c:UInt8):∀l,Lib.index l [c]= -1→aw c l= [l]
 | [],_=>rfl
 |b::l,h=>by
  rw [rA]at h;by_cases hb:b=c
  ·rw [if_pos hb]at h;omega
  ·rw [if_neg hb]at h;by_cases hi:Lib.index l [c]= -1
   ·simp only [aw,if_neg hb,nC c l hi]
   ·rw [if_neg hi]at h;have:=Lib.index_ge l [c];omega
theorem qS (c:UInt8):∀(l:List UInt8) (i:Nat),Lib.index l [c]=i→aw c l=l.take i::aw c (l.drop (i+1))
 | [],i,h=>by simp [Lib.index]at h
 |b::l,i,h=>by
  rw [rA]at h;by_cases hb:b=c
  ·rw [if_pos hb]at h;have:i=0:=by omega
   subst this;simp [aw,if_pos hb]
  ·rw [if_neg hb]at h;by_cases hi:Lib.index l [c]= -1
   ·rw [if_pos hi]at h;omega
   ·rw [if_neg hi]at h;have hg:=Lib.index_ge l [c];obtain⟨j,rfl⟩:∃j,i=j+1:=⟨i-1,by omega⟩;have:=qS c l j (by omega);simp only [aw,if_neg hb,this];simp
theorem oT (c:UInt8) (l:List UInt8):Lib.index l [c]= -1∨∃i:Nat,Lib.index l [c]=i∧i<l.length:=by
 have hg:=Lib.index_ge l [c];by_cases h:Lib.index l [c]= -1
 ·exact .inl h
 ·right;have:=Lib.index_room l [c] (by omega);refine⟨(Lib.index l [c]).toNat,by omega,?_⟩;simp at this;omega
theorem Ew (c:UInt8) (l:List UInt8) (h:Lib.index l [c]= -1):Lib.cut l [c]=(l,[],false):=by
 unfold Lib.cut;rw [if_neg (by omega)]
theorem F1 (c:UInt8) (l:List UInt8) (i:Nat) (h:Lib.index l [c]=i):Lib.cut l [c]=(l.take i,l.drop (i+1),true):=by
 unfold Lib.cut;rw [if_pos (by omega),h];simp
theorem xm (c:UInt8) (n:Nat):∀l:List UInt8,l.length≤n→Lib.splitK [c] 0 (Lib.count l [c]) l=aw c l:=by
 induction n with
 |zero=>
  intro l hl;have:l= []:=List.eq_nil_of_length_eq_zero (by omega);subst this;simp [aw,Lib.count_one,Lib.splitK]
 |succ n ih=>
  intro l hl;rcases oT c l with h |⟨i,h,hi⟩
  ·rw [Lib.count_miss h,nC c l h];simp [Lib.splitK]
  ·rw [Lib.count_hit (by simp) h,qS c l i h,Nat.add_comm];have:=ih (l.drop (i+1)) (by rw [List.length_drop];omega);simp only [Lib.splitK,h];rw [if_neg (by simp)];simp only [Int.toNat_natCast,Nat.add_zero,List.length_singleton,this]
theorem qA (c:UInt8) (s:ByteArray):(Lib.splitB ⟨#[c]⟩ 0 (Lib.countB s ⟨#[c]⟩) s).map (·.data.toList)=aw c s.data.toList:=by
 rw [Lib.splitB_data];exact xm c s.data.toList.length s.data.toList (Nat.le_refl _)
theorem xe (c:UInt8) (s:ByteArray):(aw c s.data.toList).length=Lib.countB s ⟨#[c]⟩+1:=by
 rw [←qA,List.length_map];exact Lib.splitB_all ⟨#[c]⟩ (show 1≤1 from Nat.le_refl 1) 0 _ s rfl
theorem qm (c:UInt8) (a r:List UInt8) (h:c∉a):aw c (a++c::r)=a::aw c r:=by
 induction a with
 |nil=>simp [aw]
 |cons b a ih=>
  have hb:¬b=c:=fun e=>h (by simp [e]);simp only [List.cons_append,aw,if_neg hb,ih (fun e=>h (by simp [e]))]
theorem sQ (c:UInt8) (a:List UInt8) (h:c∉a):aw c a= [a]:=by
 induction a with
 |nil=>rfl
 |cons b a ih=>
  have hb:¬b=c:=fun e=>h (by simp [e]);simp only [aw,if_neg hb,ih (fun e=>h (by simp [e]))]
def rN (b:UInt8):Prop:=48≤b.toNat∧b.toNat≤57
def gz (n:Nat) (l:List UInt8):Nat:=l.foldl step n
theorem vI (n:Nat):gz n []=n:=rfl
theorem nl (n:Nat) (b:UInt8) (r:List UInt8):gz n (b::r)=gz (step n b) r:=by unfold gz;rw [List.foldl_cons]
theorem mn (n:Nat) (b:UInt8):gz n [b]=step n b:=rfl
def up (l:List UInt8):Prop:=l≠ []∧(∀b∈l,rN b)∧(1<l.length→l.head?≠some 48)
def mI:Nat:=9223372036854775807
theorem hG (a b:List UInt8) (n:Nat):gz n (a++b)=gz (gz n a) b:=List.foldl_append
theorem uM (l:List UInt8):∀n,n≤gz n l:=by
 induction l with
 |nil=>intro n;exact Nat.le_refl _
 |cons b l ih=>intro n;rw [nl];exact Nat.le_trans (by unfold step;omega) (ih _)
theorem nj (d:Nat) (h:d<10):(UInt8.ofNat (48+d)).toNat=48+d:=by simp;omega
theorem Dn (b:UInt8) (h:rN b):UInt8.ofNat (48+(b.toNat-48))=b:=by
 unfold rN at h;rw [show 48+(b.toNat-48)=b.toNat by omega];simp
theorem mg (u:Nat):gz 0 (Lib.decDigits u)=u:=by
 induction u using Nat.strongRecOn with
 |_ u ih=>
  rw [Lib.decDigits];split
  ·rename_i h;rw [mn,step,nj u h];omega
  ·rename_i h;rw [hG,ih (u/10) (by omega)];rw [mn,step,nj (u%10) (by omega)];omega
theorem tZ (u:Nat):Lib.decDigits u≠ []:=by
 rw [Lib.decDigits];split<;>simp
theorem eL (u:Nat):∀b∈Lib.decDigits u,rN b:=by
 induction u using Nat.strongRecOn with
 |_ u ih=>
  rw [Lib.decDigits];split
  ·rename_i h;intro b hb;simp only [List.mem_singleton]at hb;subst hb;unfold rN;rw [nj u h];omega
  ·rename_i h;intro b hb;rcases List.mem_append.1 hb with hb |hb
   ·exact ih (u/10) (by omega) b hb
   ·simp only [List.mem_singleton]at hb;subst hb;unfold rN;rw [nj (u%10) (by omega)];omega
theorem E4 (u:Nat):u≠0→(Lib.decDigits u).head?≠some 48:=by
 induction u using Nat.strongRecOn with
 |_ u ih=>
  intro h0;rw [Lib.decDigits];split
  ·rename_i h;intro e;simp only [List.head?_cons,Option.some.injEq]at e;have:=congrArg UInt8.toNat e;rw [nj u h]at this;simp at this;omega
  ·rename_i h;have hne:=tZ (u/10);have:=ih (u/10) (by omega) (by omega);cases hd:Lib.decDigits (u/10)with
   |nil=>exact absurd hd hne
   |cons x xs=>rw [hd]at this;simpa using this
theorem oe (u:Nat):up (Lib.decDigits u):=by
 refine⟨tZ u,eL u,fun h=>?_⟩;by_cases h0:u=0
 ·subst h0;rw [Lib.decDigits]at h;simp at h
 ·exact E4 u h0
theorem jC (n:Nat):∀l:List UInt8,l.length≤n→up l→Lib.decDigits (gz 0 l)=l:=by
 induction n with
 |zero=>intro l hl h;exact absurd (List.eq_nil_of_length_eq_zero (by omega)) h.1
 |succ n ih=>
  intro l hl h;obtain⟨l',b,rfl⟩:∃l' b,l=l'++ [b]:=⟨l.dropLast,l.getLast h.1,(List.dropLast_concat_getLast h.1).symm⟩;have hb:rN b:=h.2.1 b (by simp);have hb':=hb;unfold rN at hb';rw [hG,mn,step];cases hl':l' with
  |nil=>
   rw [vI];rw [Lib.decDigits_one (show 10*0+(b.toNat-48) <10 by omega),show 48+(10*0+(b.toNat-48))=48+(b.toNat-48) by omega,Dn b hb];rfl
  |cons x t=>
   rw [←hl'];have hx:l'.head?≠some 48:=by
    have:=h.2.2 (by rw [hl'];simp);rw [hl']at this⊢;simpa using this
   have hxd:rN x:=h.2.1 x (by rw [hl'];simp);have hm:1≤gz 0 l':=by
    rw [hl']at hx⊢;rw [nl];refine Nat.le_trans ?_ (uM t _);unfold step;have hx48:x.toNat≠48:=by
     intro e;apply hx;simp only [List.head?_cons,Option.some.injEq];exact UInt8.toNat_inj.1 e
    unfold rN at hxd;omega
   have hrec:=ih l' (by simp at hl;omega) ⟨by rw [hl'];simp,fun c hc=>h.2.1 c (by simp [hc]),fun _=>hx⟩;rw [Lib.decDigits,dif_neg (by omega),show(10*gz 0 l'+(b.toNat-48))/10=gz 0 l' by omega,hrec,show(10*gz 0 l'+(b.toNat-48))%10=b.toNat-48 by omega,Dn b hb]
theorem yX (k:Nat):∀u,u<10^(k+1)→(Lib.decDigits u).length≤k+1:=by
 induction k with
 |zero=>intro u h;rw [Lib.decDigits_one (by simpa using h)];simp
 |succ k ih=>
  intro u h;rw [Lib.decDigits];split
  ·simp
  ·have:=ih (u/10) (by rw [Nat.pow_succ]at h;omega);simp;omega
theorem tC (l:List UInt8):∀acc,(∀b∈l,rN b)→gz acc l<18446744073709551616→Lib.parseUint10 acc l= .ok (gz acc l):=by
 induction l with
 |nil=>intro acc _ _;rfl
 |cons b l ih=>
  intro acc hd hv;have hb:=hd b (by simp);unfold rN at hb;rw [nl]at hv⊢;have hge:=Nat.lt_of_le_of_lt (uM l (step acc b)) hv;have hrec:=ih (step acc b) (fun c hc=>hd c (by simp [hc])) hv;unfold step at hge;rw [Lib.parseUint10,if_pos hb,if_neg (by omega),if_neg (by omega),show acc*10+(b.toNat-48)=step acc b by unfold step;omega];exact hrec
theorem mq (u:Nat) (h:u≤mI):Lib.atoiAll (Lib.decDigits u)= .ok (u:Int):=by
 unfold mI at h;have hd:=eL u;have hv:=mg u;cases hl:Lib.decDigits u with
 |nil=>exact absurd hl (tZ u)
 |cons c r=>
  have hc:rN c:=hd c (by rw [hl];simp);unfold rN at hc;have hp:Lib.parseMag (c::r)= .ok u:=by
   unfold Lib.parseMag;rw [if_neg (by simp), ←hl,tC _ 0 hd (by rw [hv];omega),hv]
  simp only [Lib.atoiAll];rw [if_neg (by omega),hp];simp only [];rw [if_neg (by omega),if_neg (by omega),if_neg (by omega)]
open Classical in
noncomputable def dF (l:List UInt8) (most:Int):Option Nat:=if up l∧gz 0 l≤mI∧(gz 0 l:Int)≤most then some (gz 0 l)else none
theorem jI (l:List UInt8) (most:Int) (u:Nat) (hu:u≤mI) (hm:(u:Int)≤most) (h:Lib.decDigits u=l):dF l most=some u:=by
 subst h;unfold dF;rw [mg,if_pos ⟨oe u,hu,hm⟩]
theorem nO (l:List UInt8) (most:Int) (h:∀u:Nat,u≤mI→(u:Int)≤most→Lib.decDigits u≠l):dF l most=none:=by
 unfold dF;rw [if_neg];rintro⟨h1,h2,h3⟩;exact h _ h2 h3 (jC l.length l (Nat.le_refl _) h1)
theorem d_ (w:Bs):bI [w]=w:=Lib.join_one w [32]
theorem bU (w x:Bs) (r:List Bs):bI (w::x::r)=w++32::bI (x::r):=by
 unfold bI;rw [Lib.join_cons,Lib.join_cons];simp [Lib.joinTail]
theorem dk (ws:List Bs) (hne:ws≠ []) (h:∀w∈ws,32∉w):aw 32 (bI ws)=ws:=by
 induction ws with
 |nil=>exact absurd rfl hne
 |cons w r ih=>
  cases r with
  |nil=>rw [d_];exact sQ 32 w (h w (by simp))
  |cons x r=>
   rw [bU,qm 32 w _ (h w (by simp)),ih (by simp) (fun y hy=>h y (by simp [hy]))]
theorem fH (l:Bs):bI (aw 32 l)=l:=by
 induction l with
 |nil=>rfl
 |cons b l ih=>
  simp only [aw];split
  ·rename_i hb;subst hb;cases hc:aw 32 l with
   |nil=>exact absurd hc (eJ 32 l)
   |cons x r=>
    rw [bU, ←hc,ih];rfl
  ·cases hc:aw 32 l with
   |nil=>exact absurd hc (eJ 32 l)
   |cons x r=>
    rw [hc]at ih;cases r with
    |nil=>rw [d_]at ih⊢;rw [ih]
    |cons y r=>rw [bU]at ih⊢;rw [List.cons_append,ih]
theorem Au (ls:List Bs) (h:∀l∈ls,10∉l):aw 10 (cU ls)=ls++ [[]]:=by
 induction ls with
 |nil=>rfl
 |cons l r ih=>
  have:cU (l::r)=l++10::cU r:=by simp [cU]
  rw [this,qm 10 l _ (h l (by simp)),ih (fun y hy=>h y (by simp [hy]))];rfl
theorem Al (t:Bs) (h:(aw 10 t).getLast?=some []):cU (aw 10 t).dropLast=t:=by
 induction t with
 |nil=>rfl
 |cons b t ih=>
  cases hc:aw 10 t with
  |nil=>exact absurd hc (eJ 10 t)
  |cons x r=>
   simp only [aw,hc]at h⊢;rw [hc]at ih;split at h
   ·rename_i hb;subst hb;rw [if_pos rfl];rw [List.getLast?_cons_cons]at h;have:=ih h;rw [List.dropLast_cons_of_ne_nil (by simp)];simp only [cU,List.map_cons,List.flatten_cons]at this⊢;rw [this];rfl
   ·rename_i hb;rw [if_neg hb];cases r with
    |nil=>simp at h
    |cons y r=>
     rw [List.getLast?_cons_cons]at h;have:=ih (by rw [List.getLast?_cons_cons];exact h);rw [List.dropLast_cons_of_ne_nil (by simp)]at this⊢;simp only [cU,List.map_cons,List.flatten_cons,List.cons_append]at this⊢;rw [this]
theorem kF (c:UInt8) (l:Bs):∀w∈aw c l,c∉w:=by
 induction l with
 |nil=>intro w hw;simp [aw]at hw;subst hw;simp
 |cons b l ih=>
  intro w hw;simp only [aw]at hw;split at hw
  ·rcases List.mem_cons.1 hw with e |e
   ·subst e;simp
   ·exact ih w e
  ·rename_i hb;cases hc:aw c l with
   |nil=>exact absurd hc (eJ c l)
   |cons x r=>
    rw [hc]at hw ih;rcases List.mem_cons.1 hw with e |e
    ·subst e;intro hm;rcases List.mem_cons.1 hm with e |e
     ·exact hb e.symm
     ·exact ih x (by simp) e
    ·exact ih w (by simp [e])
theorem kM (b:UInt8) (h:rN b):b≠32∧b≠10:=by
 unfold rN at h;constructor<;>(intro e;subst e;simp at h)
theorem dH (n:Int):32∉Lib.itoa n∧10∉Lib.itoa n:=by
 unfold Lib.itoa;split
 ·constructor
  ·intro h;rcases List.mem_cons.1 h with e |e
   ·cases e
   ·exact(kM _ (eL _ _ e)).1 rfl
  ·intro h;rcases List.mem_cons.1 h with e |e
   ·cases e
   ·exact(kM _ (eL _ _ e)).2 rfl
 ·exact⟨fun e=>(kM _ (eL _ _ e)).1 rfl,fun e=>(kM _ (eL _ _ e)).2 rfl⟩
theorem Du:∀n:Fin 16,hx n.val≠32∧hx n.val≠10:=by decide
theorem tD (l:Bs):32∉bZ l∧10∉bZ l:=by
 induction l with
 |nil=>simp [bZ]
 |cons b l ih=>
  have hb:=b.toNat_lt;have h1:=Du ⟨b.toNat/16,by omega⟩;have h2:=Du ⟨b.toNat%16,by omega⟩;simp only [bZ,List.mem_cons,not_or];exact⟨⟨fun e=>h1.1 e.symm,fun e=>h2.1 e.symm,ih.1⟩,⟨fun e=>h1.2 e.symm,fun e=>h2.2 e.symm,ih.2⟩⟩
theorem eX (l:Bs):32∉gv l∧10∉gv l:=by
 unfold gv;split
 ·decide
 ·exact tD l
abbrev cH:Int:=1073741824
noncomputable def dz (w:Bs):Option Int:=(dF w cH).map fun u=>(u:Int)
noncomputable def fj:List Bs→Option (Int×Int)
 | [a,b]=>match dz a,dz b with
  |some x,some y=>some (x,y)
  |_,_=>none
 |_=>none
noncomputable def hO:List Bs→Option (Int×Int×Int)
 | [a,b,c]=>match dz a,dz b,dz c with
  |some x,some y,some z=>some (x,y,z)
  |_,_,_=>none
 |_=>none
def sb:List Bs→Option Bs
 | [a]=>cB a
 |_=>none
noncomputable def fW:List Bs→Option (Int×Bs)
 | [a,b]=>match dz a,cB b with
  |some x,some y=>some (x,y)
  |_,_=>none
 |_=>none
noncomputable def kT (s:ai):List Bs→Option (ai×Nat)
 | []=>none
 |first::l=>
  if first=dE then
   (if l= [iV]then some ({s with ranked:=true},0)else if l= [fP]then some ({s with ranked:=false},0)else none)
  else if first=wMerge then(fj l).map fun m=>({s with merges:=s.merges++ [m]},1)
  else if first=wToken then(sb l).map fun m=>({s with tokens:=s.tokens++ [m]},1)
  else if first=wSpecial then(fW l).map fun m=>({s with specials:=s.specials++ [m]},2)
  else if first=wClass then(hO l).map fun m=>({s with classes:=s.classes++ [m]},3)
  else if first=wJoin then(fj l).map fun m=>({s with joins:=s.joins++ [m]},4)
  else none
def iE (k n:Nat):Option (ai×Nat)→Option (ai×Nat)
 |none=>none
 |some (x,j)=>if(n=0↔j=0)∧k≤j∧x.right=true then some (x,j)else none
noncomputable def cO (s:ai) (k n:Nat) (line:Bs):Option (ai×Nat):=iE k n (kT s (aw 32 line))
noncomputable def bV (s:ai) (k n:Nat):List Bs→Except Nat (ai×Nat)
 | []=>.ok (s,k)
 |l::r=>match cO s k n l with
  |none=>.error (n+1)
  |some (x,j)=>bV x j (n+1) r
noncomputable def bW (t:Bs):Except Nat ai:=
 match bV {} 0 0 (aw 10 t).dropLast with
 | .error n=>.error n
 | .ok s=>if(aw 10 t).getLast?=some []∧(aw 10 t).dropLast≠ []then .ok s.1 else .error (aw 10 t).length
noncomputable def aP (l:List Bs) (i:Nat):Int:=match l[i]? with
 |some w=>(dz w).getD (-1)
 |none=> -1
def cV (l:List Bs) (i:Nat):Bs:=match l[i]? with
 |some w=>(cB w).getD []
 |none=>[]
noncomputable def cS (s:ai) (line:Bs) (l:List Bs):ai:=
 if l.head?=some dE then {s with ranked:=decide (line=dl true)}
 else if l.head?=some wMerge then {s with merges:=s.merges++ [(aP l 1,aP l 2)]}
 else if l.head?=some wToken then {s with tokens:=s.tokens++ [cV l 1]}
 else if l.head?=some wSpecial then {s with specials:=s.specials++ [(aP l 1,cV l 2)]}
 else if l.head?=some wClass then {s with classes:=s.classes++ [(aP l 1,aP l 2,aP l 3)]}
 else if l.head?=some wJoin then {s with joins:=s.joins++ [(aP l 1,aP l 2)]}
 else s
noncomputable def jw (s:ai) (n:Nat) (line:Bs):Option ai:=
 if(cS s line (aw 32 line)).right=true∧(cS s line (aw 32 line)).lines.length=n+1∧(cS s line (aw 32 line)).lines[n]? =some line then some (cS s line (aw 32 line))else none
noncomputable def lx (s:ai) (n:Nat):List Bs→Except Nat ai
 | []=>.ok s
 |l::r=>match jw s n l with
  |none=>.error (n+1)
  |some x=>lx x (n+1) r
theorem cX {w:Bs} {x:Int} (h:dz w=some x):Lib.itoa x=w∧0≤x:=by
 unfold dz at h;obtain⟨u,hu,rfl⟩:=Option.map_eq_some_iff.1 h;unfold dF at hu;split at hu
 ·rename_i hc;cases hu;exact⟨by rw [Lib.itoa_nonneg];exact jC w.length w (Nat.le_refl _) hc.1,by omega⟩
 ·cases hu
theorem gG (u:Nat) (h:(u:Int)≤cH):dz (Lib.itoa (u:Int))=some (u:Int):=by
 unfold dz;rw [Lib.itoa_nonneg,jI _ _ u (by unfold mI;unfold cH at h;omega) h rfl];rfl
theorem fK {l:List Bs} {i:Nat} (h:0≤aP l i):∃w,l[i]? =some w∧dz w=some (aP l i):=by
 unfold aP at h⊢;split at h
 ·rename_i w hw;cases hn:dz w with
  |none=>rw [hn]at h;simp at h
  |some x=>exact⟨w,hw,by simp [hn]⟩
 ·omega
theorem qa {l:List Bs} {i:Nat} (h:cV l i≠ []):∃w,l[i]? =some w∧cB w=some (cV l i):=by
 unfold cV at h⊢;split at h
 ·rename_i w hw;cases hn:cB w with
  |none=>rw [hn]at h;simp at h
  |some x=>exact⟨w,hw,by simp [hn]⟩
 ·exact absurd rfl h
theorem iR {l:List Bs} {i:Nat} {w:Bs} {x:Int} (h:l[i]? =some w) (hx:dz w=some x):aP l i=x:=by
 unfold aP;rw [h];simp [hx]
theorem wA {l:List Bs} {i:Nat} {w x:Bs} (h:l[i]? =some w) (hx:cB w=some x):cV l i=x:=by
 unfold cV;rw [h];simp [hx]
theorem zM (m:Int×Int):aw 32 (cR m)= [wMerge,Lib.itoa m.1,Lib.itoa m.2]:=
 dk _ (by simp) (by intro w hw;simp at hw;rcases hw with rfl |rfl |rfl<;>first |decide |exact(dH _).1 |exact(eX _).1)
theorem qd (t:Bs):aw 32 (dh t)= [wToken,gv t]:=
 dk _ (by simp) (by intro w hw;simp at hw;rcases hw with rfl |rfl<;>first |decide |exact(dH _).1 |exact(eX _).1)
theorem mB (x:Int×Bs):aw 32 (bO x)= [wSpecial,Lib.itoa x.1,gv x.2]:=
 dk _ (by simp) (by intro w hw;simp at hw;rcases hw with rfl |rfl |rfl<;>first |decide |exact(dH _).1 |exact(eX _).1)
theorem qo (c:Int×Int×Int):aw 32 (eC c)= [wClass,Lib.itoa c.1,Lib.itoa c.2.1,Lib.itoa c.2.2]:=
 dk _ (by simp) (by intro w hw;simp at hw;rcases hw with rfl |rfl |rfl |rfl<;>first |decide |exact(dH _).1 |exact(eX _).1)
theorem sR (m:Int×Int):aw 32 (hU m)= [wJoin,Lib.itoa m.1,Lib.itoa m.2]:=
 dk _ (by simp) (by intro w hw;simp at hw;rcases hw with rfl |rfl |rfl<;>first |decide |exact(dH _).1 |exact(eX _).1)
theorem kG (r:Bool):aw 32 (dl r)= [dE,if r then iV else fP]:=
 dk _ (by simp) (by intro w hw;simp at hw;rcases hw with rfl |rfl<;>first |decide |exact(dH _).1 |exact(eX _).1 |(cases r<;>decide))
theorem Bn {s x:ai} {n:Nat} {line lk w:Bs} {pre post:List Bs} (hs:s.lines=pre++post) (hn:s.lines.length=n) (hx:x.lines=pre++lk::post)
  (hline:(aw 32 line).head?=some w) (hpost:∀p∈post,(aw 32 p).head?≠some w):(x.lines.length=n+1∧x.lines[n]? =some line)↔(post= []∧lk=line):=by
 rw [hs,List.length_append]at hn;rw [hx];constructor
 ·rintro⟨_,h⟩;cases post with
  |nil=>
   simp at hn;rw [List.getElem?_append_right (by omega)]at h;rw [show n-pre.length=0 by omega]at h;simpa using h
  |cons p r=>
   exfalso;rw [List.getElem?_append_right (by omega)]at h;simp at hn;rw [show n-pre.length=(r.length)+1 by omega,List.getElem?_cons_succ]at h;have hm:=List.mem_of_getElem? h;exact hpost line hm hline
 ·rintro⟨rfl,rfl⟩;simp at hn;subst hn;simp
def fJ (s:ai):Nat:=if s.joins≠ []then 4 else if s.classes≠ []then 3 else if s.specials≠ []then 2 else if s.merges≠ []∨s.tokens≠ []then 1 else 0
def xq (s:ai) (k n:Nat) (done:List Bs):Prop:=(n=0∧s= {}∧k=0∧done= [])∨(0<n∧s.lines=done∧done.length=n∧s.right=true∧k=fJ s)
theorem iM {s x:ai} {n k j:Nat} {line lk w:Bs} {pre post done:List Bs} (item:Option (ai×Nat)) (hd:s.lines=done) (hs:s.lines=pre++post) (hn:s.lines.length=n) (h0:n≠0) (hx:x.lines=pre++lk::post)
  (hline:(aw 32 line).head?=some w) (hpost:∀p∈post,(aw 32 p).head?≠some w) (hj:j≠0) (hk:x.right=true→(k≤j↔post= [])) (hkind:x.right=true→post= []→fJ x=j)
  (h1:∀y,item=some y→y=(x,j)∧lk=line) (h2:x.right=true→lk=line→item=some (x,j)):
  (if x.right=true∧x.lines.length=n+1∧x.lines[n]? =some line then some x else none)=
   (iE k n item).map (·.1)∧
  ∀y j',iE k n item=some (y,j')→xq y j' (n+1) (done++ [line]):=by
 have hll:=Bn hs hn hx hline hpost;cases hi:item with
 |none=>
  refine⟨?_,by simp [iE]⟩;rw [if_neg]
  ·rfl
  ·rintro⟨hr,hl⟩;have:=h2 hr (hll.1 hl).2;rw [hi]at this;cases this
 |some y=>
  obtain⟨rfl,hlk⟩:=h1 y hi;by_cases hr:x.right=true
  ·by_cases hp:post= []
   ·have hc:x.right=true∧x.lines.length=n+1∧x.lines[n]? =some line:=⟨hr,hll.2 ⟨hp,hlk⟩⟩;have hc2:(n=0↔j=0)∧k≤j∧x.right=true:=⟨by constructor<;>intro e<;>omega,(hk hr).2 hp,hr⟩
    rw [if_pos hc];simp only [iE,if_pos hc2];refine⟨rfl,?_⟩;intro y j' e;cases e;refine .inr ⟨by omega,?_,?_,hr,(hkind hr hp).symm⟩
    ·rw [hx, ←hd,hs,hp,hlk];simp
    ·rw [←hd,List.length_append,hn];rfl
   ·rw [if_neg (by rintro⟨_,hl⟩;exact hp (hll.1 hl).1)];have hc2:¬((n=0↔j=0)∧k≤j∧x.right=true):=by rintro⟨_,h,_⟩;exact hp ((hk hr).1 h)
    simp only [iE,if_neg hc2];exact⟨rfl,by simp⟩
  ·rw [if_neg (by rintro⟨h,_⟩;exact hr h)];have hc2:¬((n=0↔j=0)∧k≤j∧x.right=true):=by rintro⟨_,_,h⟩;exact hr h
   simp only [iE,if_neg hc2];exact⟨rfl,by simp⟩
theorem gL {α:Type} {l:List α} {x:α} {most:Nat} {may:α→Bool} (h:bk (l++ [x]) most may=true):may x=true:=by
 unfold bk at h;simp only [Bool.and_eq_true,List.all_append,List.all_cons,List.all_nil]at h;exact h.2.2.1
theorem CC {a b:Bs} {x y:Int} (hx:dz a=some x) (hy:dz b=some y):fj [a,b]=some (x,y):=by simp [fj,hx,hy]
theorem BT {l:List Bs} {m:Int×Int} (h:fj l=some m):∃a b,l= [a,b]∧dz a=some m.1∧dz b=some m.2:=by
 match l,h with
 | [a,b],h=>
  simp only [fj]at h;split at h
  ·rename_i x y hx hy;cases h;exact⟨a,b,rfl,hx,hy⟩
  ·cases h
theorem BG {l:List Bs} {m:Int×Int×Int} (h:hO l=some m):∃a b c,l= [a,b,c]∧dz a=some m.1∧dz b=some m.2.1∧dz c=some m.2.2:=by
 match l,h with
 | [a,b,c],h=>
  simp only [hO]at h;split at h
  ·rename_i x y z hx hy hz;cases h;exact⟨a,b,c,rfl,hx,hy,hz⟩
  ·cases h
theorem EN {l:List Bs} {t:Bs} (h:sb l=some t):∃a,l= [a]∧cB a=some t:=by
 match l,h with
 | [a],h=>exact⟨a,rfl,h⟩
theorem Bp {l:List Bs} {m:Int×Bs} (h:fW l=some m):∃a b,l= [a,b]∧dz a=some m.1∧cB b=some m.2:=by
 match l,h with
 | [a,b],h=>
  simp only [fW]at h;split at h
  ·rename_i x y hx hy;cases h;exact⟨a,b,rfl,hx,hy⟩
  ·cases h
theorem rG {w line:Bs} {l:List Bs} (hw:aw 32 line=w::l):
  (∀m,fj l=some m→(aP (w::l) 1,aP (w::l) 2)=m∧bI [w,Lib.itoa (aP (w::l) 1),Lib.itoa (aP (w::l) 2)]=line)∧
  (0≤aP (w::l) 1→0≤aP (w::l) 2→bI [w,Lib.itoa (aP (w::l) 1),Lib.itoa (aP (w::l) 2)]=line→fj l=some (aP (w::l) 1,aP (w::l) 2)):=by
 have hline:line=bI (w::l):=by rw [←hw,fH]
 have hfree:=kF 32 line;rw [hw]at hfree;constructor
 ·intro m hm;obtain⟨a,b,rfl,ha,hb⟩:=BT hm;rw [iR (l:=[w,a,b]) (i:=1) rfl ha,iR (l:=[w,a,b]) (i:=2) rfl hb,(cX ha).1,(cX hb).1];exact⟨rfl,hline.symm⟩
 ·intro h1 h2 he;obtain⟨a,ha,hna⟩:=fK h1;obtain⟨b,hb,hnb⟩:=fK h2;rw [(cX hna).1,(cX hnb).1]at he;have hc:=dk [w,a,b] (by simp) (by
   intro x hx;simp at hx;rcases hx with rfl |rfl |rfl
   ·exact hfree _ (by simp)
   ·exact hfree _ (List.mem_of_getElem? ha)
   ·exact hfree _ (List.mem_of_getElem? hb))
  rw [he,hw]at hc;cases hc;exact CC hna hnb
theorem tI {w line:Bs} {l:List Bs} (hw:aw 32 line=w::l):
  (∀m,hO l=some m→(aP (w::l) 1,aP (w::l) 2,aP (w::l) 3)=m∧bI [w,Lib.itoa (aP (w::l) 1),Lib.itoa (aP (w::l) 2),Lib.itoa (aP (w::l) 3)]=line)∧
  (0≤aP (w::l) 1→0≤aP (w::l) 2→0≤aP (w::l) 3→bI [w,Lib.itoa (aP (w::l) 1),Lib.itoa (aP (w::l) 2),Lib.itoa (aP (w::l) 3)]=line→hO l=some (aP (w::l) 1,aP (w::l) 2,aP (w::l) 3)):=by
 have hline:line=bI (w::l):=by rw [←hw,fH]
 have hfree:=kF 32 line;rw [hw]at hfree;constructor
 ·intro m hm;obtain⟨a,b,c,rfl,ha,hb,hc⟩:=BG hm;rw [iR (l:=[w,a,b,c]) (i:=1) rfl ha,iR (l:=[w,a,b,c]) (i:=2) rfl hb,iR (l:=[w,a,b,c]) (i:=3) rfl hc,(cX ha).1,(cX hb).1,(cX hc).1];exact⟨rfl,hline.symm⟩
 ·intro h1 h2 h3 he;obtain⟨a,ha,hna⟩:=fK h1;obtain⟨b,hb,hnb⟩:=fK h2;obtain⟨c,hc,hnc⟩:=fK h3;rw [(cX hna).1,(cX hnb).1,(cX hnc).1]at he;have hcut:=dk [w,a,b,c] (by simp) (by
   intro x hx;simp at hx;rcases hx with rfl |rfl |rfl |rfl
   ·exact hfree _ (by simp)
   ·exact hfree _ (List.mem_of_getElem? ha)
   ·exact hfree _ (List.mem_of_getElem? hb)
   ·exact hfree _ (List.mem_of_getElem? hc))
  rw [he,hw]at hcut;cases hcut;simp [hO,hna,hnb,hnc]
theorem Cf {w line:Bs} {l:List Bs} (hw:aw 32 line=w::l):
  (∀m,sb l=some m→cV (w::l) 1=m∧bI [w,gv (cV (w::l) 1)]=line)∧
  (cV (w::l) 1≠ []→bI [w,gv (cV (w::l) 1)]=line→sb l=some (cV (w::l) 1)):=by
 have hline:line=bI (w::l):=by rw [←hw,fH]
 have hfree:=kF 32 line;rw [hw]at hfree;constructor
 ·intro m hm;obtain⟨a,rfl,ha⟩:=EN hm;rw [wA (l:=[w,a]) (i:=1) rfl ha,iT _ _ ha];exact⟨rfl,hline.symm⟩
 ·intro h1 he;obtain⟨a,ha,hna⟩:=qa h1;rw [iT _ _ hna]at he;have hcut:=dk [w,a] (by simp) (by
   intro x hx;simp at hx;rcases hx with rfl |rfl
   ·exact hfree _ (by simp)
   ·exact hfree _ (List.mem_of_getElem? ha))
  rw [he,hw]at hcut;cases hcut;exact hna
theorem AA {w line:Bs} {l:List Bs} (hw:aw 32 line=w::l):
  (∀m,fW l=some m→(aP (w::l) 1,cV (w::l) 2)=m∧bI [w,Lib.itoa (aP (w::l) 1),gv (cV (w::l) 2)]=line)∧
  (0≤aP (w::l) 1→cV (w::l) 2≠ []→bI [w,Lib.itoa (aP (w::l) 1),gv (cV (w::l) 2)]=line→fW l=some (aP (w::l) 1,cV (w::l) 2)):=by
 have hline:line=bI (w::l):=by rw [←hw,fH]
 have hfree:=kF 32 line;rw [hw]at hfree;constructor
 ·intro m hm;obtain⟨a,b,rfl,ha,hb⟩:=Bp hm;rw [iR (l:=[w,a,b]) (i:=1) rfl ha,wA (l:=[w,a,b]) (i:=2) rfl hb,(cX ha).1,iT _ _ hb];exact⟨rfl,hline.symm⟩
 ·intro h1 h2 he;obtain⟨a,ha,hna⟩:=fK h1;obtain⟨b,hb,hnb⟩:=qa h2;rw [(cX hna).1,iT _ _ hnb]at he;have hcut:=dk [w,a,b] (by simp) (by
   intro x hx;simp at hx;rcases hx with rfl |rfl |rfl
   ·exact hfree _ (by simp)
   ·exact hfree _ (List.mem_of_getElem? ha)
   ·exact hfree _ (List.mem_of_getElem? hb))
  rw [he,hw]at hcut;cases hcut;simp [fW,hna,hnb]
theorem BR (k n:Nat):iE k n none=none:=rfl
theorem qE {k n j:Nat} {x:ai} (h:¬(n=0↔j=0)):iE k n (some (x,j))=none:=by
 simp only [iE];rw [if_neg (fun e=>h e.1)]
theorem fw {α:Type} {k n j:Nat} {o:Option α} {f:α→ai} (h:¬(n=0↔j=0)):iE k n (o.map fun m=>(f m,j))=none:=by
 cases o with
 |none=>rfl
 |some m=>exact qE h
theorem yp {line:Bs} {l:List Bs} (hw:aw 32 line=dE::l):(l= [iV]↔line=dl true)∧(l= [fP]↔line=dl false):=by
 constructor
 ·constructor
  ·rintro rfl;rw [←fH line,hw];rfl
  ·rintro rfl;rw [kG]at hw;simp at hw;exact hw.symm
 ·constructor
  ·rintro rfl;rw [←fH line,hw];rfl
  ·rintro rfl;rw [kG]at hw;simp at hw;exact hw.symm
theorem oK:wMerge≠dE∧wToken≠dE∧wSpecial≠dE∧wClass≠dE∧wJoin≠dE∧wToken≠wMerge∧wSpecial≠wMerge∧wClass≠wMerge∧wJoin≠wMerge∧wSpecial≠wToken∧wClass≠wToken∧wJoin≠wToken∧wClass≠wSpecial∧wJoin≠wSpecial∧wJoin≠wClass:=by decide
theorem z_ (line:Bs):jw {} 0 line=(cO {} 0 0 line).map (·.1)∧∀y j,cO {} 0 0 line=some (y,j)→xq y j 1 [line]:=by
 cases hw:aw 32 line with
 |nil=>exact absurd hw (eJ 32 line)
 |cons w l=>
  have hh:(w::l).head?=some w:=rfl;have two:∀x:ai,x.lines.length≠1→(if x.right=true∧x.lines.length=0+1∧x.lines[0]? =some line then some x else none)=none:=by
   intro x hx;rw [if_neg (fun e=>hx e.2.1)]
  by_cases h1:w=dE
  ·subst h1;obtain⟨hr,hm⟩:=yp hw;unfold jw cO;rw [hw];simp only [cS,hh,if_true,kT];by_cases hl:l= [iV]
   ·have hline:=hr.1 hl;rw [if_pos hl,decide_eq_true hline];have hg:iE 0 0 (some (({ranked:=true}:ai),0))=some ({ranked:=true},0):=by
     simp only [iE];rw [if_pos ⟨by simp,Nat.le_refl _,by decide⟩]
    rw [hg,if_pos ⟨by decide,rfl,by rw [hline];rfl⟩];refine⟨rfl,?_⟩;intro y j e;cases e;exact .inr ⟨by omega,by rw [hline];rfl,rfl,by decide,rfl⟩
   ·have hline:line≠dl true:=fun e=>hl (hr.2 e);rw [if_neg hl,decide_eq_false hline];by_cases hl2:l= [fP]
    ·have hline2:=hm.1 hl2;rw [if_pos hl2];have hg:iE 0 0 (some (({ranked:=false}:ai),0))=some ({ranked:=false},0):=by
      simp only [iE];rw [if_pos ⟨by simp,Nat.le_refl _,by decide⟩]
     rw [hg,if_pos ⟨by decide,rfl,by rw [hline2];rfl⟩];refine⟨rfl,?_⟩;intro y j e;cases e;exact .inr ⟨by omega,by rw [hline2];rfl,rfl,by decide,rfl⟩
    ·rw [if_neg hl2,BR,if_neg]
     ·exact⟨rfl,by simp⟩
     ·rintro⟨_,_,e⟩;apply hl2;rw [hm];have e:some (dl false)=some line:=e;exact(Option.some.inj e).symm
  ·have hread:cO {} 0 0 line=none:=by
    unfold cO;rw [hw];simp only [kT,if_neg h1];split
    ·exact fw (by omega)
    ·split
     ·exact fw (by omega)
     ·split
      ·exact fw (by omega)
      ·split
       ·exact fw (by omega)
       ·split
        ·exact fw (by omega)
        ·rfl
   rw [hread];refine⟨?_,by simp⟩;unfold jw;rw [hw];simp only [cS,hh,Option.some.injEq,if_neg h1];split
   ·exact two _ (by simp [ai.lines,ai.tail])
   ·split
    ·exact two _ (by simp [ai.lines,ai.tail])
    ·split
     ·exact two _ (by simp [ai.lines,ai.tail])
     ·split
      ·exact two _ (by simp [ai.lines,ai.tail])
      ·split
       ·exact two _ (by simp [ai.lines,ai.tail])
       ·rw [if_neg]
        ·rfl
        ·rintro⟨_,_,e⟩;have e:some (dl false)=some line:=e;rw [←Option.some.inj e,kG]at hw;cases hw;exact h1 rfl
theorem kz {s:ai} {w:Bs} (p:Bs):(p∈s.tokens.map dh→w≠wToken→(aw 32 p).head?≠some w)∧(p∈s.specials.map bO→w≠wSpecial→(aw 32 p).head?≠some w)∧
  (p∈s.classes.map eC→w≠wClass→(aw 32 p).head?≠some w)∧(p∈s.joins.map hU→w≠wJoin→(aw 32 p).head?≠some w):=by
 refine⟨?_,?_,?_,?_⟩
 ·intro h hw e;obtain⟨x,_,rfl⟩:=List.mem_map.1 h;rw [qd]at e;exact hw (Option.some.inj e).symm
 ·intro h hw e;obtain⟨x,_,rfl⟩:=List.mem_map.1 h;rw [mB]at e;exact hw (Option.some.inj e).symm
 ·intro h hw e;obtain⟨x,_,rfl⟩:=List.mem_map.1 h;rw [qo]at e;exact hw (Option.some.inj e).symm
 ·intro h hw e;obtain⟨x,_,rfl⟩:=List.mem_map.1 h;rw [sR]at e;exact hw (Option.some.inj e).symm
theorem zD {s:ai} {k n:Nat} {done:List Bs} (line:Bs) (hn:0<n) (hd:s.lines=done) (hlen:done.length=n) (hk:k=fJ s):
  jw s n line=(cO s k n line).map (·.1)∧∀y j,cO s k n line=some (y,j)→xq y j (n+1) (done++ [line]):=by
 have hsn:s.lines.length=n:=by rw [hd,hlen]
 cases hw:aw 32 line with
 |nil=>exact absurd hw (eJ 32 line)
 |cons w l=>
  have hh:(aw 32 line).head?=some w:=by rw [hw];rfl
  have hh':(w::l).head?=some w:=rfl;obtain⟨n1,n2,n3,n4,n5,n6,n7,n8,n9,n10,n11,n12,n13,n14,n15⟩:=oK;have same:∀x:ai,x.lines.length=n→(if x.right=true∧x.lines.length=n+1∧x.lines[n]? =some line then some x else none)=none:=by
   intro x hx;rw [if_neg (fun e=>by omega)]
  unfold jw cO;rw [hw];by_cases h1:w=dE
  ·subst h1;simp only [cS,hh',if_true,kT];have hread:iE k n (if l= [iV]then some ({s with ranked:=true},0)else if l= [fP]then some ({s with ranked:=false},0)else none)=none:=by
    split
    ·exact qE (by omega)
    ·split
     ·exact qE (by omega)
     ·rfl
   rw [hread,same _ (by rw [←hsn];rfl)];exact⟨rfl,by simp⟩
  ·simp only [cS,hh',Option.some.injEq,kT,if_neg h1];by_cases h2:w=wMerge
   ·subst h2;simp only [if_true];obtain⟨hp1,hp2⟩:=rG hw;refine iM (j:=1) (pre:=dl s.ranked::s.merges.map cR) (post:=s.tokens.map dh++(s.specials.map bO++(s.classes.map eC++s.joins.map hU))) (lk:=cR (aP (wMerge::l) 1,aP (wMerge::l) 2)) _ hd rfl hsn (by omega) (by simp [ai.lines,ai.tail]) hh ?_ (by decide) ?_ ?_ ?_ ?_
    ·intro p hp;obtain⟨g1,g2,g3,g4⟩:=kz (s:=s) (w:=wMerge) p;simp only [List.mem_append]at hp;rcases hp with hp |hp |hp |hp
     ·exact g1 hp n6.symm
     ·exact g2 hp n7.symm
     ·exact g3 hp n8.symm
     ·exact g4 hp n9.symm
    ·intro hr;have hra:=(aH hr).1;have hnr:s.ranked=false:=by
      cases h:s.ranked
      ·rfl
      ·rw [if_pos (by simpa using h)]at hra;simp at hra
     have htok:s.tokens= []:=by simpa [hnr]using hra
     rw [hk,htok];unfold fJ;constructor
     ·intro h;split at h
      ·omega
      ·split at h
       ·omega
       ·split at h
        ·omega
        ·rename_i a b c;simp at a b c;simp [a,b,c]
     ·intro h;simp at h;obtain⟨a,b,c⟩:=h;simp only [a,b,c,ne_eq,not_true_eq_false,if_false];split<;>omega
    ·intro hr hp;simp at hp;obtain⟨a,b,c,d⟩:=hp;simp [fJ,a,b,c,d]
    ·intro y hy;obtain⟨m,hm,rfl⟩:=Option.map_eq_some_iff.1 hy;obtain⟨e1,e2⟩:=hp1 m hm;exact⟨by rw [e1],e2⟩
    ·intro hr he;have hmo:=gL (aH hr).2.1;simp only [dr,decide_eq_true_eq]at hmo;rw [hp2 hmo.1 hmo.2.2.1 he];rfl
   ·simp only [if_neg h2];by_cases h3:w=wToken
    ·subst h3;simp only [if_true];obtain⟨hp1,hp2⟩:=Cf hw;refine iM (j:=1) (pre:=dl s.ranked::(s.merges.map cR++s.tokens.map dh)) (post:=s.specials.map bO++(s.classes.map eC++s.joins.map hU)) (lk:=dh (cV (wToken::l) 1)) _ hd (by simp [ai.lines,ai.tail]) hsn (by omega) (by simp [ai.lines,ai.tail]) hh ?_ (by decide) ?_ ?_ ?_ ?_
     ·intro p hp;obtain⟨g1,g2,g3,g4⟩:=kz (s:=s) (w:=wToken) p;simp only [List.mem_append]at hp;rcases hp with hp |hp |hp
      ·exact g2 hp n10.symm
      ·exact g3 hp n11.symm
      ·exact g4 hp n12.symm
     ·intro hr;rw [hk];unfold fJ;constructor
      ·intro h;split at h
       ·omega
       ·split at h
        ·omega
        ·split at h
         ·omega
         ·rename_i a b c;simp at a b c;simp [a,b,c]
      ·intro h;simp at h;obtain⟨a,b,c⟩:=h;simp only [a,b,c,ne_eq,not_true_eq_false,if_false];split<;>omega
     ·intro hr hp;simp at hp;obtain⟨a,b,c⟩:=hp;simp [fJ,a,b,c]
     ·intro y hy;obtain⟨m,hm,rfl⟩:=Option.map_eq_some_iff.1 hy;obtain⟨e1,e2⟩:=hp1 m hm;exact⟨by rw [e1],e2⟩
     ·intro hr he;have hmo:=gL (aH hr).2.2.1;simp only [ee,decide_eq_true_eq]at hmo;rw [hp2 (by intro e;rw [e]at hmo;simp at hmo) he];rfl
    ·simp only [if_neg h3];by_cases h4:w=wSpecial
     ·subst h4;simp only [if_true];obtain⟨hp1,hp2⟩:=AA hw;refine iM (j:=2) (pre:=dl s.ranked::(s.merges.map cR++(s.tokens.map dh++s.specials.map bO))) (post:=s.classes.map eC++s.joins.map hU) (lk:=bO (aP (wSpecial::l) 1,cV (wSpecial::l) 2)) _ hd (by simp [ai.lines,ai.tail]) hsn (by omega) (by simp [ai.lines,ai.tail]) hh ?_ (by decide) ?_ ?_ ?_ ?_
      ·intro p hp;obtain⟨g1,g2,g3,g4⟩:=kz (s:=s) (w:=wSpecial) p;simp only [List.mem_append]at hp;rcases hp with hp |hp
       ·exact g3 hp n13.symm
       ·exact g4 hp n14.symm
      ·intro hr;rw [hk];unfold fJ;constructor
       ·intro h;split at h
        ·omega
        ·split at h
         ·omega
         ·rename_i a b;simp at a b;simp [a,b]
       ·intro h;simp at h;obtain⟨a,b⟩:=h;simp only [a,b,ne_eq,not_true_eq_false,if_false];split
        ·omega
        ·split<;>omega
      ·intro hr hp;simp at hp;obtain⟨a,b⟩:=hp;simp [fJ,a,b]
      ·intro y hy;obtain⟨m,hm,rfl⟩:=Option.map_eq_some_iff.1 hy;obtain⟨e1,e2⟩:=hp1 m hm;exact⟨by rw [e1],e2⟩
      ·intro hr he;have hmo:=gL (aH hr).2.2.2.1;simp only [aY,decide_eq_true_eq]at hmo;rw [hp2 hmo.1 (by intro e;rw [e]at hmo;simp at hmo) he];rfl
     ·simp only [if_neg h4];by_cases h5:w=wClass
      ·subst h5;simp only [if_true];obtain⟨hp1,hp2⟩:=tI hw;refine iM (j:=3) (pre:=dl s.ranked::(s.merges.map cR++(s.tokens.map dh++(s.specials.map bO++s.classes.map eC)))) (post:=s.joins.map hU) (lk:=eC (aP (wClass::l) 1,aP (wClass::l) 2,aP (wClass::l) 3)) _ hd (by simp [ai.lines,ai.tail]) hsn (by omega) (by simp [ai.lines,ai.tail]) hh ?_ (by decide) ?_ ?_ ?_ ?_
       ·intro p hp;obtain⟨g1,g2,g3,g4⟩:=kz (s:=s) (w:=wClass) p;exact g4 hp n15.symm
       ·intro hr;rw [hk];unfold fJ;constructor
        ·intro h;split at h
         ·omega
         ·rename_i a;simp at a;simp [a]
        ·intro h;simp at h;simp only [h,ne_eq,not_true_eq_false,if_false];split
         ·omega
         ·split
          ·omega
          ·split<;>omega
       ·intro hr hp;simp at hp;simp [fJ,hp]
       ·intro y hy;obtain⟨m,hm,rfl⟩:=Option.map_eq_some_iff.1 hy;obtain⟨e1,e2⟩:=hp1 m hm;exact⟨by rw [e1],e2⟩
       ·intro hr he;have hmo:=gL (aH hr).2.2.2.2.1;simp only [aR,decide_eq_true_eq]at hmo;rw [hp2 hmo.1 (by omega) hmo.2.2.2.1 he];rfl
      ·simp only [if_neg h5];by_cases h6:w=wJoin
       ·subst h6;simp only [if_true];obtain⟨hp1,hp2⟩:=rG hw;refine iM (j:=4) (pre:=s.lines) (post:=[]) (lk:=hU (aP (wJoin::l) 1,aP (wJoin::l) 2)) _ hd (by simp) hsn (by omega) (by simp [ai.lines,ai.tail]) hh (by simp) (by decide) ?_ ?_ ?_ ?_
        ·intro hr;rw [hk];unfold fJ;constructor
         ·intro _;rfl
         ·intro _;split
          ·omega
          ·split
           ·omega
           ·split
            ·omega
            ·split<;>omega
        ·intro hr hp;simp [fJ]
        ·intro y hy;obtain⟨m,hm,rfl⟩:=Option.map_eq_some_iff.1 hy;obtain⟨e1,e2⟩:=hp1 m hm;exact⟨by rw [e1],e2⟩
        ·intro hr he;have hmo:=gL (aH hr).2.2.2.2.2;simp only [bK,decide_eq_true_eq]at hmo;rw [hp2 hmo.1 hmo.2.2.1 he];rfl
       ·simp only [if_neg h6];rw [same s hsn];exact⟨rfl,by simp [iE]⟩
theorem FD {s:ai} {k n:Nat} {done:List Bs} (h:xq s k n done) (line:Bs):jw s n line=(cO s k n line).map (·.1)∧∀y j,cO s k n line=some (y,j)→xq y j (n+1) (done++ [line]):=by
 rcases h with⟨rfl,rfl,rfl,rfl⟩ |⟨hn,hd,hl,_,hk⟩
 ·exact z_ line
 ·exact zD line hn hd hl hk
theorem Ax:∀(ls:List Bs) {s:ai} {k n:Nat} {done:List Bs},xq s k n done→
  (match bV s k n ls with | .ok x=>Except.ok x.1 | .error m=>.error m)=lx s n ls∧∀y j,bV s k n ls= .ok (y,j)→xq y j (n+ls.length) (done++ls)
 | [],s,k,n,done,h=>⟨rfl,fun y j e=>by cases e;simpa using h⟩
 |l::r,s,k,n,done,h=>by
  obtain⟨h1,h2⟩:=FD h l;simp only [bV,lx];cases hr:cO s k n l with
  |none=>
   rw [hr]at h1;rw [h1];exact⟨rfl,by simp⟩
  |some y=>
   obtain⟨y,j⟩:=y;rw [hr]at h1;rw [h1];obtain⟨g1,g2⟩:=Ax r (h2 y j hr);refine⟨g1,?_⟩;intro z q e;have:=g2 z q e;rw [List.length_cons,show n+(r.length+1)=n+1+r.length by omega];simpa using this
theorem pV:xq {} 0 0 []:=.inl ⟨rfl,rfl,rfl,rfl⟩
theorem ea:∀(a b:List Bs) (s:ai) (k n:Nat),bV s k n (a++b)=match bV s k n a with | .ok x=>bV x.1 x.2 (n+a.length) b | .error m=>.error m
 | [],b,s,k,n=>rfl
 |l::a,b,s,k,n=>by
  simp only [List.cons_append,bV];cases cO s k n l with
  |none=>rfl
  |some y=>
   obtain⟨y,j⟩:=y;simp only [];rw [ea a b y j (n+1),List.length_cons,show n+(a.length+1)=n+1+a.length by omega]
theorem fo {α:Type} {a b:List α} {most:Nat} {may:α→Bool} (h:bk (a++b) most may=true):bk a most may=true:=by
 unfold bk at h⊢;simp only [Bool.and_eq_true,decide_eq_true_eq,List.all_append,List.length_append]at h⊢;exact⟨by omega,h.2.1⟩
theorem iN {s:ai} (h1:(if s.ranked then s.merges.isEmpty else s.tokens.isEmpty)=true) (h2:bk s.merges 744 dr=true) (h3:bk s.tokens 744 ee=true) (h4:bk s.specials 32 aY=true) (h5:bk s.classes 64 aR=true) (h6:bk s.joins 64 bK=true):s.right=true:=by
 unfold ai.right;rw [h1,h2,h3,h4,h5,h6];rfl
theorem rr {m:Int×Int} (h1:0≤m.1) (h2:m.1≤cH) (h3:0≤m.2) (h4:m.2≤cH):fj [Lib.itoa m.1,Lib.itoa m.2]=some m:=by
 obtain⟨a,ha⟩:=Int.eq_ofNat_of_zero_le h1;obtain⟨b,hb⟩:=Int.eq_ofNat_of_zero_le h3;have e1:dz (Lib.itoa m.1)=some m.1:=by rw [ha];exact gG a (by rw [←ha];exact h2)
 have e2:dz (Lib.itoa m.2)=some m.2:=by rw [hb];exact gG b (by rw [←hb];exact h4)
 simp [fj,e1,e2]
theorem Aj {m:Int×Int×Int} (h1:0≤m.1) (h2:m.1≤cH) (h3:0≤m.2.1) (h4:m.2.1≤cH) (h5:0≤m.2.2) (h6:m.2.2≤cH):hO [Lib.itoa m.1,Lib.itoa m.2.1,Lib.itoa m.2.2]=some m:=by
 obtain⟨a,ha⟩:=Int.eq_ofNat_of_zero_le h1;obtain⟨b,hb⟩:=Int.eq_ofNat_of_zero_le h3;obtain⟨c,hc⟩:=Int.eq_ofNat_of_zero_le h5;have e1:dz (Lib.itoa m.1)=some m.1:=by rw [ha];exact gG a (by rw [←ha];exact h2)
 have e2:dz (Lib.itoa m.2.1)=some m.2.1:=by rw [hb];exact gG b (by rw [←hb];exact h4)
 have e3:dz (Lib.itoa m.2.2)=some m.2.2:=by rw [hc];exact gG c (by rw [←hc];exact h6)
 simp [hO,e1,e2,e3]
theorem zS {m:Int×Bs} (h1:0≤m.1) (h2:m.1≤cH):fW [Lib.itoa m.1,gv m.2]=some m:=by
 obtain⟨a,ha⟩:=Int.eq_ofNat_of_zero_le h1;have e1:dz (Lib.itoa m.1)=some m.1:=by rw [ha];exact gG a (by rw [←ha];exact h2)
 simp [fW,e1,sK]
theorem sV {α:Type} (put:ai→α→ai) (lineK:α→Bs) (j:Nat) (hj:j≠0):∀(ms:List α) (s:ai) (k n:Nat),n≠0→k≤j→
  (∀i,i<ms.length→((ms.take (i+1)).foldl put s).right=true)→(∀m∈ms,∀s,kT s (aw 32 (lineK m))=some (put s m,j))→
  bV s k n (ms.map lineK)= .ok (ms.foldl put s,if ms= []then k else j)
 | [],s,k,n,_,_,_,_=>rfl
 |m::ms,s,k,n,hn,hk,hr,ha=>by
  simp only [List.map_cons,bV];have hr0:(put s m).right=true:=by simpa using hr 0 (by simp)
  have hl:cO s k n (lineK m)=some (put s m,j):=by
   unfold cO;rw [ha m (by simp) s];simp only [iE];rw [if_pos ⟨by constructor<;>intro e<;>omega,hk,hr0⟩]
  rw [hl];simp only [];rw [sV put lineK j hj ms (put s m) j (n+1) (by omega) (Nat.le_refl _) (fun i hi=>by simpa using hr (i+1) (by simpa using hi)) (fun x hx=>ha x (by simp [hx]))];simp
theorem jD:∀(ms:List (Int×Int)) (s:ai),ms.foldl (fun(s:ai) m=>{s with merges:=s.merges++ [m]}) s= {s with merges:=s.merges++ms}
 | [],s=>by simp
 |m::ms,s=>by rw [List.foldl_cons,jD ms];simp
theorem jF:∀(ms:List Bs) (s:ai),ms.foldl (fun(s:ai) m=>{s with tokens:=s.tokens++ [m]}) s= {s with tokens:=s.tokens++ms}
 | [],s=>by simp
 |m::ms,s=>by rw [List.foldl_cons,jF ms];simp
theorem iC:∀(ms:List (Int×Bs)) (s:ai),ms.foldl (fun(s:ai) m=>{s with specials:=s.specials++ [m]}) s= {s with specials:=s.specials++ms}
 | [],s=>by simp
 |m::ms,s=>by rw [List.foldl_cons,iC ms];simp
theorem jg:∀(ms:List (Int×Int×Int)) (s:ai),ms.foldl (fun(s:ai) m=>{s with classes:=s.classes++ [m]}) s= {s with classes:=s.classes++ms}
 | [],s=>by simp
 |m::ms,s=>by rw [List.foldl_cons,jg ms];simp
theorem md:∀(ms:List (Int×Int)) (s:ai),ms.foldl (fun(s:ai) m=>{s with joins:=s.joins++ [m]}) s= {s with joins:=s.joins++ms}
 | [],s=>by simp
 |m::ms,s=>by rw [List.foldl_cons,md ms];simp
theorem gQ {α:Type} (l:List α) (i:Nat):∃r,l=l.take i++r:=⟨l.drop i,(List.take_append_drop i l).symm⟩
theorem bw {α:Type} {l:List α} {most:Nat} {may:α→Bool} (h:bk l most may=true) {x:α} (hx:x∈l):may x=true:=by
 unfold bk at h;simp only [Bool.and_eq_true,List.all_eq_true]at h;exact h.2 x hx
theorem dL {α:Type} (most:Nat) (may:α→Bool):bk [] most may=true:=by simp [bk]
theorem zk (s:ai) (h:s.right=true):∃k,bV {} 0 0 s.lines= .ok (s,k):=by
 obtain⟨h1,h2,h3,h4,h5,h6⟩:=aH h;have w1:=fun(m:Int×Int) (hm:m∈s.merges)=>bw h2 hm;have w3:=fun(m:Int×Bs) (hm:m∈s.specials)=>bw h4 hm;have w4:=fun(m:Int×Int×Int) (hm:m∈s.classes)=>bw h5 hm;have w5:=fun(m:Int×Int) (hm:m∈s.joins)=>bw h6 hm;obtain⟨k1,n1,n2,n3,n4,n5,m1,m2,m3,m4,o1,o2,o3,q1,q2⟩:=oK;have hhead:cO {} 0 0 (dl s.ranked)=some ({ranked:=s.ranked},0):=by
  unfold cO;rw [kG];cases s.ranked<;>rfl
 simp only [ai.lines,bV,hhead,ai.tail];have g1:=sV (fun(s:ai) m=>{s with merges:=s.merges++ [m]}) cR 1 (by decide) s.merges {ranked:=s.ranked} 0 1 (by decide) (by decide)
  (fun i hi=>by
   rw [jD];obtain⟨r,hr⟩:=gQ s.merges (i+1);refine iN ?_ (by rw [hr]at h2;simpa using fo h2) (dL _ _) (dL _ _) (dL _ _) (dL _ _);cases hrk:s.ranked
   ·rfl
   ·rw [hrk]at h1;simp at h1;rw [h1]at hi;simp at hi)
  (fun m hm s'=>by
   have hmo:=w1 m hm;simp only [dr,decide_eq_true_eq]at hmo;rw [zM];simp only [kT,if_neg k1,if_true,rr hmo.1 (show m.1≤cH by unfold cH;omega) hmo.2.2.1 (show m.2≤cH by unfold cH;omega)];rfl)
 rw [jD]at g1;rw [ea,g1];simp only [List.nil_append];have e1:∀(α:Type) (l:List α),(if l= []then(0:Nat)else 1)≤1:=by intro α l;split<;>omega
 generalize hkA:(if s.merges= []then(0:Nat)else 1)=kA;have hA:kA≤1:=by rw [←hkA];split<;>omega
 have g2:=sV (fun(s:ai) m=>{s with tokens:=s.tokens++ [m]}) dh 1 (by decide) s.tokens {ranked:=s.ranked,merges:=s.merges} kA (1+(s.merges.map cR).length) (by omega) hA
  (fun i hi=>by
   rw [jF];obtain⟨r,hr⟩:=gQ s.tokens (i+1);refine iN ?_ h2 (by rw [hr]at h3;simpa using fo h3) (dL _ _) (dL _ _) (dL _ _);cases hrk:s.ranked
   ·rw [hrk]at h1;simp at h1;rw [h1]at hi;simp at hi
   ·rw [hrk]at h1;simpa using h1)
  (fun m hm s'=>by
   rw [qd];simp only [kT,if_neg n1,if_neg n5,if_true,sb,sK];rfl)
 rw [jF]at g2;rw [ea,g2];simp only [List.nil_append];generalize hkB:(if s.tokens= []then kA else 1)=kB;have hB:kB≤2:=by rw [←hkB];split<;>omega
 have hr0:(if s.ranked=true then s.merges.isEmpty else s.tokens.isEmpty)=true:=h1;have g3:=sV (fun(s:ai) m=>{s with specials:=s.specials++ [m]}) bO 2 (by decide) s.specials {ranked:=s.ranked,merges:=s.merges,tokens:=s.tokens} kB (1+(s.merges.map cR).length+(s.tokens.map dh).length) (by omega) hB
  (fun i hi=>by
   rw [iC];obtain⟨r,hr⟩:=gQ s.specials (i+1);exact iN hr0 h2 h3 (by rw [hr]at h4;simpa using fo h4) (dL _ _) (dL _ _))
  (fun m hm s'=>by
   have hmo:=w3 m hm;simp only [aY,decide_eq_true_eq]at hmo;rw [mB];simp only [kT,if_neg n2,if_neg m1,if_neg m4,if_true,zS (m:=m) hmo.1 hmo.2.1];rfl)
 rw [iC]at g3;rw [ea,g3];simp only [List.nil_append];generalize hkC:(if s.specials= []then kB else 2)=kC;have hC:kC≤3:=by rw [←hkC];split<;>omega
 have g4:=sV (fun(s:ai) m=>{s with classes:=s.classes++ [m]}) eC 3 (by decide) s.classes {ranked:=s.ranked,merges:=s.merges,tokens:=s.tokens,specials:=s.specials} kC (1+(s.merges.map cR).length+(s.tokens.map dh).length+(s.specials.map bO).length) (by omega) hC
  (fun i hi=>by
   rw [jg];obtain⟨r,hr⟩:=gQ s.classes (i+1);exact iN hr0 h2 h3 h4 (by rw [hr]at h5;simpa using fo h5) (dL _ _))
  (fun m hm s'=>by
   have hmo:=w4 m hm;simp only [aR,decide_eq_true_eq]at hmo;rw [qo];simp only [kT,if_neg n3,if_neg m2,if_neg o1,if_neg o3,if_true,Aj (m:=m) hmo.1 (by unfold cH;omega) (by omega) (by unfold cH;omega) hmo.2.2.2.1 (by unfold cH;omega)];rfl)
 rw [jg]at g4;rw [ea,g4];simp only [List.nil_append];generalize hkD:(if s.classes= []then kC else 3)=kD;have hD:kD≤4:=by rw [←hkD];split<;>omega
 have g5:=sV (fun(s:ai) m=>{s with joins:=s.joins++ [m]}) hU 4 (by decide) s.joins {ranked:=s.ranked,merges:=s.merges,tokens:=s.tokens,specials:=s.specials,classes:=s.classes} kD (1+(s.merges.map cR).length+(s.tokens.map dh).length+(s.specials.map bO).length+(s.classes.map eC).length) (by omega) hD
  (fun i hi=>by
   rw [md];obtain⟨r,hr⟩:=gQ s.joins (i+1);exact iN hr0 h2 h3 h4 h5 (by rw [hr]at h6;simpa using fo h6))
  (fun m hm s'=>by
   have hmo:=w5 m hm;simp only [bK,decide_eq_true_eq]at hmo;rw [sR];simp only [kT,if_neg n4,if_neg m3,if_neg o2,if_neg q1,if_neg q2,if_true,rr (m:=m) hmo.1 (by unfold cH;omega) hmo.2.2.1 (by unfold cH;omega)];rfl)
 rw [md]at g5;exact⟨_,g5⟩
theorem zQ (s:ai):∀l∈s.lines,10∉l:=by
 have join_free:∀ws:List Bs,(∀w∈ws,10∉w)→10∉bI ws:=by
  intro ws;induction ws with
  |nil=>intro _;simp [bI,Lib.join_nil]
  |cons w r ih=>
   intro h;cases r with
   |nil=>rw [d_];exact h w (by simp)
   |cons x r=>
    rw [bU];simp only [List.mem_append,List.mem_cons,not_or];exact⟨h w (by simp),by decide,ih fun y hy=>h y (by simp [hy])⟩
 intro l hl;simp only [ai.lines,ai.tail,List.mem_cons,List.mem_append,List.mem_map]at hl;rcases hl with rfl |⟨m,_,rfl⟩ |⟨m,_,rfl⟩ |⟨m,_,rfl⟩ |⟨m,_,rfl⟩ |⟨m,_,rfl⟩
 ·cases s.ranked<;>decide+kernel
 ·exact join_free _ (by intro w hw;simp at hw;rcases hw with rfl |rfl |rfl<;>first |decide |exact(dH _).2)
 ·exact join_free _ (by intro w hw;simp at hw;rcases hw with rfl |rfl<;>first |decide |exact(eX _).2)
 ·exact join_free _ (by intro w hw;simp at hw;rcases hw with rfl |rfl |rfl<;>first |decide |exact(dH _).2 |exact(eX _).2)
 ·exact join_free _ (by intro w hw;simp at hw;rcases hw with rfl |rfl |rfl |rfl<;>first |decide |exact(dH _).2)
 ·exact join_free _ (by intro w hw;simp at hw;rcases hw with rfl |rfl |rfl<;>first |decide |exact(dH _).2)
theorem jk (s:ai) (h:s.right=true):bW s.text= .ok s:=by
 obtain⟨k,hk⟩:=zk s h;unfold bW ai.text;rw [Au _ (zQ s),List.dropLast_concat,hk];simp only [];rw [if_pos ⟨by simp,by simp [ai.lines]⟩]
theorem qw (t:Bs) (s:ai) (h:bW t= .ok s):s.text=t∧s.right=true:=by
 unfold bW at h;cases hr:bV {} 0 0 (aw 10 t).dropLast with
 |error m=>rw [hr]at h;cases h
 |ok x=>
  obtain⟨y,j⟩:=x;rw [hr]at h;simp only []at h;split at h
  ·rename_i hc;cases h;have:=(Ax (aw 10 t).dropLast pV).2 _ _ hr;rcases this with⟨e,_⟩ |⟨_,hl,_,hright,_⟩
   ·have:(aw 10 t).dropLast= []:=List.eq_nil_of_length_eq_zero (by omega);exact absurd this hc.2
   ·refine⟨?_,hright⟩;unfold ai.text;rw [hl];exact Al t hc.1
  ·cases h
theorem K5:(⟨#[48,49,50,51,52,53,54,55,56,57,97,98,99,100,101,102]⟩:ByteArray)=str ni:=rfl
theorem DC (n:Nat) (h:n<16):btAt (str ni) (n:Int)=((hx n).toNat:Int):=by
 rw [cd ni n (by simpa [ni]using h)];simp [hx,List.getD,List.getElem?_eq_getElem (show n<ni.length by simpa [ni]using h)]
theorem ia (l:List UInt8):((str l).toList==(⟨#[]⟩:ByteArray).toList)=decide (l= []):=by
 rw [show(⟨#[]⟩:ByteArray)=str []from rfl,cr,cr];cases l<;>simp
theorem Dl (l:List UInt8) (i:Nat) (h:i<l.length):bZ (l.take (i+1))=bZ (l.take i)++ [hx (l[i].toNat/16)]++ [hx (l[i].toNat%16)]:=by
 rw [List.take_add_one,List.getElem?_eq_getElem h,qD];simp [bZ]
theorem lK:∀n:Fin 256,Lib.indexByte ni (UInt8.ofNat n.val)=match nc (UInt8.ofNat n.val)with |some k=>(k:Int) |none=> -1:=by decide+kernel
theorem rD (b:UInt8):Lib.indexByte ni b=match nc b with |some k=>(k:Int) |none=> -1:=
 CX (p:=fun b=>Lib.indexByte ni b=match nc b with |some k=>(k:Int) |none=> -1) lK b
theorem Fg (b:UInt8):((b.toNat:Int)).toNat.toUInt8=b:=by simp
theorem qg (b:UInt8) (w:World):
  CP 295 #[.int .u8 b.toNat] w fun e w'=>e= .returned (.int .i64 (match nc b with |some k=>(k:Int) |none=> -1))∧w'=w:=by
 refine aU (u0 b.toNat w) ?_;refine(Tryz.strings_IndexByte _ _ w).mono ?_;rintro e w' ⟨rfl,rfl⟩;rw [Fg];exact⟨_,rfl,by rw [show(ByteArray.mk #[48,49,50,51,52,53,54,55,56,57,97,98,99,100,101,102]).data.toList=ni from rfl,rD],rfl⟩
theorem fR (b:UInt8) (w:World):
  CP 193 #[.int .u8 b.toNat] w fun e w'=>e= .returned (.int .i64 (match nc b with |some k=>(k:Int) |none=>16))∧w'=w:=by
 refine aU (xw b.toNat w) ?_;have hb:=b.toNat_lt;refine aa.mk ?_ ?_
 ·intro h1;have h1:=of_decide_eq_true h1;refine aa.mk ?_ ?_
  ·intro h2;have h2:=of_decide_eq_true h2;refine Ar.ok (k:=.u8) (by simp [IntKind.min,IntKind.signed];omega) (by simp [IntKind.max,IntKind.signed,IntKind.bits];omega) ?_;rw [bY (k:=.i64) (by simp [IntKind.min,IntKind.signed,IntKind.bits];omega) (by simp [IntKind.max,IntKind.signed,IntKind.bits];omega)];refine⟨?_,rfl⟩;unfold nc;rw [if_pos ⟨by omega,by omega⟩];congr 2;dsimp only;omega
  ·intro h2;have h2:=of_decide_eq_false h2;refine aa.mk ?_ ?_
   ·intro h3;have h3:=of_decide_eq_true h3;refine aa.mk ?_ ?_
    ·intro h4;have h4:=of_decide_eq_true h4;refine Ar.ok (k:=.u8) (by simp [IntKind.min,IntKind.signed];omega) (by simp [IntKind.max,IntKind.signed,IntKind.bits];omega) ?_;rw [bY (k:=.i64) (by simp [IntKind.min,IntKind.signed,IntKind.bits];omega) (by simp [IntKind.max,IntKind.signed,IntKind.bits];omega)];refine Ar.ok64 (by omega) (by omega) ⟨?_,rfl⟩;unfold nc;rw [if_neg (by omega),if_pos ⟨by omega,by omega⟩];congr 2;dsimp only;omega
    ·intro h4;have h4:=of_decide_eq_false h4;refine⟨?_,rfl⟩;unfold nc;rw [if_neg (by omega),if_neg (by omega)]
   ·intro h3;have h3:=of_decide_eq_false h3;refine⟨?_,rfl⟩;unfold nc;rw [if_neg (by omega),if_neg (by omega)]
 ·intro h1;have h1:=of_decide_eq_false h1;refine aa.no ?_ ⟨?_,rfl⟩
  ·exact decide_eq_false (by omega)
  ·unfold nc;rw [if_neg (by omega),if_neg (by omega)]
def Ht:Option (List UInt8)→Value
 |some r=>.tuple #[.string (str r),.bool true]
 |none=>.tuple #[.string (str []),.bool false]
theorem bP (a b:List UInt8):((str a).toList==(str b).toList)=decide (a=b):=by
 rw [cr,cr];by_cases h:a=b
 ·subst h;simp
 ·simp [h]
theorem qP (l acc:List UInt8) (i:Nat) (h:i+1<l.length) (hp:pairs l=(pairs (l.drop i)).map (acc++ ·)) (x y:Nat) (hx:nc l[i]=some x) (hy:nc l[i+1]=some y):
  pairs l=(pairs (l.drop (i+2))).map ((acc++ [UInt8.ofNat (16*x+y)])++ ·):=by
 rw [hp,List.drop_eq_getElem_cons (show i<l.length by omega),List.drop_eq_getElem_cons (show i+1<l.length by omega)];simp only [pairs,hx,hy];cases pairs (l.drop (i+1+1))with
 |none=>rfl
 |some r=>simp
theorem kQ (l acc:List UInt8) (i:Nat) (h:i+1<l.length) (hp:pairs l=(pairs (l.drop i)).map (acc++ ·)) (hb:nc l[i]=none∨nc l[i+1]=none):pairs l=none:=by
 rw [hp,List.drop_eq_getElem_cons (show i<l.length by omega),List.drop_eq_getElem_cons (show i+1<l.length by omega)];rcases hb with hb |hb
 ·simp [pairs,hb]
 ·simp only [pairs,hb];cases nc l[i]<;>rfl
theorem rI (l acc:List UInt8) (i:Nat) (h:l.length≤i) (hp:pairs l=(pairs (l.drop i)).map (acc++ ·)):pairs l=some acc:=by
 rw [hp,List.drop_eq_nil_of_le h];simp [pairs]
theorem BZ (l acc:List UInt8) (i:Nat) (h:i+1=l.length) (hp:pairs l=(pairs (l.drop i)).map (acc++ ·)):pairs l=none:=by
 rw [hp,List.drop_eq_getElem_cons (show i<l.length by omega),List.drop_eq_nil_of_le (by omega)];simp [pairs]
theorem zl (n:Nat):∀l:List UInt8,l.length≤n→∀r,pairs l=some r→l.length=2*r.length:=by
 induction n with
 |zero=>
  intro l hl r h;cases l with
  |nil=>simp [pairs]at h;subst h;rfl
  |cons a l=>simp at hl
 |succ n ih=>
  intro l hl r h
  match l,hl,h with
  | [],_,h=>simp [pairs]at h;subst h;rfl
  | [_],_,h=>simp [pairs]at h
  |a::b::l,hl,h=>
   simp only [pairs]at h;split at h
   ·rename_i x y r' _ _ hr;cases h;have:=ih l (by simp at hl;omega) _ hr;simp;omega
   ·cases h
theorem tK (l:List UInt8) (h1:l≠ [45]) (h2:l≠ []):cB l=pairs l:=by
 unfold cB;rw [if_neg h1,if_neg h2]
theorem AM (x y:Nat) (hx:x<16) (hy:y<16):IntKind.wrap .u8 ((x:Int)*16+y)=((UInt8.ofNat (16*x+y)).toNat:Int):=by
 rw [bY (k:=.u8) (by simp [IntKind.min,IntKind.signed];omega) (by simp [IntKind.max,IntKind.signed,IntKind.bits];omega)];have:(UInt8.ofNat (16*x+y)).toNat=16*x+y:=by simp;omega
 omega
theorem qN (l:List UInt8) (w:World) (hl:l.length≤2000000):
  CP 269 #[.string (str l)] w fun e w'=>e= .returned (Ht (cB l))∧Below w.heap.size w w':=by
 refine aU (xL (str l) w) ?_;refine aa.mk ?_ ?_
 ·intro h;rw [show(⟨#[45]⟩:ByteArray)=str [45]from rfl,bP]at h;have h:=of_decide_eq_true h;subst h;exact⟨rfl,Below.refl _ _⟩
 ·intro h1;rw [show(⟨#[45]⟩:ByteArray)=str [45]from rfl,bP]at h1;have h1:=of_decide_eq_false h1;refine aa.mk ?_ ?_
  ·intro h;rw [ia]at h;have h:=of_decide_eq_true h;subst h;exact⟨rfl,Below.refl _ _⟩
  ·intro h2;rw [ia]at h2;have h2:=of_decide_eq_false h2;have hu:=tK l h1 h2;rw [hu];refine⟨by decide,?_⟩;rw [aj,show Int.tmod (l.length:Int) 2=((l.length%2:Nat):Int)from rfl,show Int.tdiv (l.length:Int) 2=((l.length/2:Nat):Int)from rfl];refine aa.mk ?_ ?_
   ·intro h3;have h3:l.length%2≠0:=by
     intro e;rw [e]at h3;simp at h3
    refine⟨?_,Below.refl _ _⟩;cases hp:pairs l with
    |none=>rfl
    |some r=>have:=zl l.length l (Nat.le_refl _) r hp;omega
   ·intro h3;have h3:l.length%2=0:=by
     rcases Nat.mod_two_eq_zero_or_one l.length with e |e
     ·exact e
     ·rw [e]at h3;simp at h3
    refine⟨by decide,?_⟩;rw [bY (k:=.i64) (by simp [IntKind.min,IntKind.signed,IntKind.bits];omega) (by simp [IntKind.max,IntKind.signed,IntKind.bits];omega)];obtain⟨i,hi',hz,hs,hb⟩:=info_parts qW;obtain⟨w1,hr,hown,hg⟩:=run_make_own (P:=Tryz.prog) w w.heap.size gP uO i _ 1 eE hi' hz hs .i64 .i64 (l.length/2) (by rw [hb];omega) (by simp [maxLen];omega) (Nat.le_refl _);refine⟨_,_,_,w1,hr,?_⟩;intro I hI;have key:=jr (α:=Option Addr×Nat×Nat×Bool×ByteArray×World) (l.length/2)
     (fun k x=>∃acc,pairs l=(pairs (l.drop (2*k))).map (acc++ ·)∧acc.length≤k∧x.2.2.2.2.2.ownsRow w.heap.size uO 1 (.slice x.1 x.2.1 x.2.2.1) x.2.1 (Lib.byteCells acc)∧Below w.heap.size w x.2.2.2.2.2)
     (fun k x=>I [.int .i64 ((2*k:Nat):Int),.slice x.1 x.2.1 x.2.2.1,.bool x.2.2.2.1,.string x.2.2.2.2.1] x.2.2.2.2.2) ?_ ?_ 0 (Nat.zero_le _) (some ⟨w.heap.size,0,none⟩,0,l.length/2,false,str [],w1)
    ·refine key ⟨[],?_,Nat.le_refl _,hown,(Below.refl _ w).grown hg (Nat.le_refl _) (fun _ h=>by cases h)⟩;simp
    ·rintro⟨bA,bN,bC,y3,y2,w2⟩ ⟨acc,hp,_,hown2,hB⟩;refine hI _ _ _ _ _ _ _ (aa.no (decide_eq_false (by omega)) ?_);have hd:=rI l acc _ (by omega) hp;refine⟨_,_,ig eE yF iW hown2,?_,hB⟩;rw [hd];rfl
    ·rintro k hk ih ⟨bA,bN,bC,y3,y2,w2⟩ ⟨acc,hp,hacc,hown2,hB⟩;have hi1:2*k+1<l.length:=by omega
     refine hI _ _ _ _ _ _ _ (aa.yes (decide_eq_true (by omega)) ?_);rintro w3 rfl;refine⟨by omega,by omega,Ar.ok64 (by omega) (by omega) ?_⟩;refine⟨by omega,by omega,?_⟩;rw [cd l (2*k) (by omega),show((2*k:Nat):Int)+1=((2*k+1:Nat):Int) by omega,cd l (2*k+1) hi1];refine(qg _ w2.drew).mono ?_;rintro e w4 ⟨rfl,rfl⟩;refine⟨_,rfl,?_⟩;refine(qg _ w2.drew).mono ?_;rintro e w5 ⟨rfl,rfl⟩;refine⟨_,rfl,?_⟩;cases hx:nc l[2*k]with
     |none=>
      refine aa.yes rfl ⟨?_,hB.drew⟩;rw [kQ l acc _ hi1 hp (.inl hx)];rfl
     |some x=>
      cases hy:nc l[2*k+1]with
      |none=>
       refine aa.no (decide_eq_false (by dsimp only;omega)) (aa.yes rfl ⟨?_,hB.drew⟩);rw [kQ l acc _ hi1 hp (.inr hy)];rfl
      |some y=>
       have h4:=lZ _ _ hx;have h5:=lZ _ _ hy;refine aa.no (decide_eq_false (by dsimp only;omega)) (aa.no (decide_eq_false (by dsimp only;omega)) ?_);dsimp only;refine Ar.ok64 (by omega) (by omega) (Ar.ok64 (by omega) (by omega) ?_);rw [AM x y h4 h5];rintro w6 rfl;have hn:=hown2.1;dsimp only at hn hown2 hB;rw [Lib.byteCells_length]at hn;obtain⟨a',c',w7,hr,hown7,hg,_⟩:=eG (P:=Tryz.prog) gP uO eE qW rfl (by decide) (du hown2) [.int .u8 (UInt8.ofNat (16*x+y)).toNat] rfl (by intro u hu;simp at hu;subst hu;rfl) (by omega) (by omega) hB.size;refine⟨_,_,_,w7,hr,Ar.ok64 (by omega) (by omega) ?_⟩;rw [kg]at hown7;have:=ih (a',bN+1,c',y3,y2,w7) ⟨acc++ [UInt8.ofNat (16*x+y)],qP l acc _ hi1 hp x y hx hy,by simp;omega,hown7,di hB.drew (du hown2) hg hB.size⟩;rw [show((2*k:Nat):Int)+2=((2*(k+1):Nat):Int) by omega];exact this
theorem E9 (x y:Nat) (hx:x<16) (hy:y<16):IntKind.wrap .u8 ((16:Int)*x+y)=((UInt8.ofNat (16*x+y)).toNat:Int):=by
 rw [show(16:Int)*x+y=(x:Int)*16+y by omega];exact AM x y hx hy
theorem sy (l:List UInt8) (w:World) (hl:l.length≤2000000):
  CP 136 #[.string (str l)] w fun e w'=>e= .returned (Ht (cB l))∧Below w.heap.size w w':=by
 refine aU (yl (str l) w) ?_;refine aa.mk ?_ ?_
 ·intro h;rw [show(⟨#[45]⟩:ByteArray)=str [45]from rfl,bP]at h;have h:=of_decide_eq_true h;subst h;exact⟨rfl,Below.refl _ _⟩
 ·intro h1;rw [show(⟨#[45]⟩:ByteArray)=str [45]from rfl,bP]at h1;have h1:=of_decide_eq_false h1;intro I hI;have bad:pairs l=none→cB l=none:=by
   intro h;unfold cB;rw [if_neg h1];split
   ·rfl
   ·exact h
  have key:=jr (α:=Option Addr×Nat×Nat×Bool×ByteArray×World) ((l.length+1)/2)
   (fun k x=>∃acc,pairs l=(pairs (l.drop (2*k))).map (acc++ ·)∧acc.length=k∧2*k≤l.length∧x.2.2.2.2.2.ownsRow w.heap.size uO 1 (.slice x.1 x.2.1 x.2.2.1) x.2.1 (Lib.byteCells acc)∧Below w.heap.size w x.2.2.2.2.2)
   (fun k x=>I [.int .i64 ((2*k:Nat):Int),.slice x.1 x.2.1 x.2.2.1,.bool x.2.2.2.1,.string x.2.2.2.2.1] x.2.2.2.2.2) ?_ ?_ 0 (Nat.zero_le _) (none,0,0,false,str [],w)
  ·refine key ⟨[],?_,rfl,by omega,co _ _ _ _,Below.refl _ w⟩;simp
  ·rintro⟨bA,bN,bC,y3,y2,w2⟩ ⟨acc,hp,hacc,hle,hown2,hB⟩;refine hI _ _ _ _ _ _ _ (aa.no (decide_eq_false (by rw [aj];omega)) ?_);have hd:=rI l acc _ (by omega) hp;have hn:=hown2.1;dsimp only at hn;rw [Lib.byteCells_length]at hn;refine⟨_,_,ig eE yF iW hown2,?_,hB⟩;unfold cB;rw [if_neg h1];dsimp only;split
   ·rename_i e;subst e;simp [pairs]at hd;subst hd;simp at hn;subst hn;rfl
   ·rename_i e;have hpos:0<l.length:=List.length_pos_iff.2 e;rw [hd,decide_eq_true (by omega)];rfl
  ·rintro k hk ih ⟨bA,bN,bC,y3,y2,w2⟩ ⟨acc,hp,hacc,hle,hown2,hB⟩;rw [aj]at hI;refine hI _ _ _ _ _ _ _ (aa.yes (decide_eq_true (by omega)) ?_);refine Ar.ok64 (by omega) (by omega) (aa.mk ?_ ?_)
   ·intro h;have h:=of_decide_eq_true h;refine⟨?_,hB⟩;rw [bad (BZ l acc _ (by omega) hp)];rfl
   ·intro h;have h:=of_decide_eq_false h;have hi1:2*k+1<l.length:=by omega
    have hi64:∀ {F:Int→Prop},F ((2*k+1:Nat):Int)→Ar .i64 (((2*k:Nat):Int)+1) F:=fun {F} hF=>Ar.ok64 (by omega) (by omega) (by rwa [show((2*k:Nat):Int)+1=((2*k+1:Nat):Int) by omega]);refine⟨by omega,by omega,?_⟩;rw [cd l (2*k) (by omega)];refine(fR _ w2).mono ?_;rintro e w3 ⟨rfl,hw3⟩;subst w3;refine⟨_,rfl,?_⟩;cases hx:nc l[2*k]with
    |none=>
     refine aa.yes rfl ⟨?_,hB⟩;rw [bad (kQ l acc _ hi1 hp (.inl hx))];rfl
    |some x=>
     have h4:=lZ _ _ hx;refine aa.no (decide_eq_false (by dsimp only;omega)) (hi64 ⟨by omega,by omega,?_⟩);rw [cd l (2*k+1) hi1];refine(fR _ w2).mono ?_;rintro e w3 ⟨rfl,hw3⟩;subst w3;refine⟨_,rfl,?_⟩;cases hy:nc l[2*k+1]with
     |none=>
      refine aa.yes rfl ⟨?_,hB⟩;rw [bad (kQ l acc _ hi1 hp (.inr hy))];rfl
     |some y=>
      have h5:=lZ _ _ hy;refine aa.no (decide_eq_false (by dsimp only;omega)) ?_;rintro w4 rfl;refine⟨by omega,by omega,hi64 ⟨by omega,by omega,?_⟩⟩;refine(fR _ w2.drew).mono ?_;rintro e w5 ⟨rfl,rfl⟩;refine⟨_,rfl,?_⟩;rw [hx];dsimp only;refine Ar.ok64 (by omega) (by omega) ?_;rw [cd l (2*k+1) hi1];refine(fR _ w2.drew).mono ?_;rintro e w5 ⟨rfl,rfl⟩;refine⟨_,rfl,?_⟩;rw [hy];dsimp only;refine Ar.ok64 (by omega) (by omega) ?_;rw [E9 x y h4 h5];rintro w6 rfl;have hn:=hown2.1;dsimp only at hn hown2 hB;rw [Lib.byteCells_length]at hn;obtain⟨a',c',w7,hr,hown7,hg,_⟩:=eG (P:=Tryz.prog) gP uO eE qW rfl (by decide) (du hown2) [.int .u8 (UInt8.ofNat (16*x+y)).toNat] rfl (by intro u hu;simp at hu;subst hu;rfl) (by omega) (by omega) hB.size;refine⟨_,_,_,w7,hr,Ar.ok64 (by omega) (by omega) ?_⟩;rw [kg]at hown7;have:=ih (a',bN+1,c',y3,y2,w7) ⟨acc++ [UInt8.ofNat (16*x+y)],qP l acc _ hi1 hp x y hx hy,by simp;omega,by omega,hown7,di hB.drew (du hown2) hg hB.size⟩;rw [show((2*k:Nat):Int)+2=((2*(k+1):Nat):Int) by omega];exact this
theorem oM (l:List UInt8) (w:World) (hl:l.length≤1000000):
  CP 138 #[.string (str l)] w fun e w'=>e= .returned (.string (str (gv l)))∧Below w.heap.size w w':=by
 refine aU (xb (str l) w) ?_;intro I hI;rw [aj]at hI;have key:=jr (α:=World) l.length (fun i w2=>Below w.heap.size w w2) (fun i w2=>I [.int .i64 (i:Int),.string (str (bZ (l.take i)))] w2) ?_ ?_ 0 (Nat.zero_le _) w
 ·exact key (Below.refl _ _)
 ·intro w2 hB;refine hI _ _ _ (aa.no (by simp) (aa.mk ?_ ?_))
  ·intro h;rw [ia]at h;have h:=of_decide_eq_true h;have hlen:=dU (l.take l.length);rw [h,List.take_length]at hlen;have:l= []:=List.eq_nil_of_length_eq_zero (by simp at hlen;omega);subst this;exact⟨rfl,hB⟩
  ·intro h;rw [ia]at h;have h:=of_decide_eq_false h;rw [List.take_length]at*;refine⟨?_,hB⟩;unfold gv;rw [if_neg];intro e;subst e;exact h rfl
 ·intro i hi ih w2 hB;have hbt:=(l[i]).toNat_lt;refine hI _ _ _ (aa.yes (by simp;omega) ?_);rintro w3 rfl;rw [cd l i hi,show Int.tdiv ((l[i].toNat:Nat):Int) 16=((l[i].toNat/16:Nat):Int)from rfl,show Int.tmod ((l[i].toNat:Nat):Int) 16=((l[i].toNat%16:Nat):Int)from rfl,K5];rw [bY (k:=.u8) (by simp [IntKind.min,IntKind.signed];omega) (by simp [IntKind.max,IntKind.signed,IntKind.bits];omega)];rw [DC _ (show l[i].toNat/16<16 by omega),DC _ (show l[i].toNat%16<16 by omega)];refine⟨by omega,by omega,by decide,by omega,by rw [aj];simp [ni];omega,by omega,by omega,by decide,by omega,by rw [aj];simp [ni];omega,?_⟩;rintro w4 rfl;have hc:=run_convert_bytes_back (P:=Tryz.prog) (w2.drew.alloc (.cells (Lib.byteCells [hx (l[i].toNat/16),hx (l[i].toNat%16)]).toArray uO)) gP bE uO (nb w2.drew) 2 [hx (l[i].toNat/16),hx (l[i].toNat%16)] eE yF iW (by
   intro j hj;have hadd:(nb w2.drew).add j=⟨w2.drew.heap.size,j,none⟩:=by unfold Addr.add nb;split<;>simp_all
   rw [hadd,aT]
   match j,hj with
   |0,_=>rfl
   |1,_=>rfl)
  refine⟨_,_,hc,?_,Ar.ok64 (by omega) (by omega) ?_⟩
  ·have hlen:=dU (l.take i);rw [List.length_take]at hlen;rw [aj,aj,hlen];simp [IntKind.max,IntKind.signed,IntKind.bits];omega
  ·show I [_,.string (str (bZ (l.take i))++str [hx (l[i].toNat/16),hx (l[i].toNat%16)])] _;rw [bL,show bZ (l.take i)++ [hx (l[i].toNat/16),hx (l[i].toNat%16)]=bZ (l.take (i+1)) by rw [Dl l i hi];simp];exact ih _ (hB.drew.alloc hB.size _)
abbrev tj (w:World):Prop:=Lib.TabIs Tryz.prog w "internal/strconv.uint64pow10" .u64 Lib.pow10Tab
theorem tj.on {w w':World} (h:tj w) (hb:Below w.heap.size w w'):tj w':=Lib.tabBelow_of_tabIs h w' hb
theorem aW (n:Int) (h:jl n):(Lib.itoa n).length≤21:=by
 have key:∀u:Nat,u<18446744073709551616→(Lib.decDigits u).length≤20:=by
  intro u hu;rw [Lib.decDigits_length];by_cases h1:1≤u
  ·have:=Lib.numDigits_eq u h1 hu;rw [←this.1];have:=this.2;split<;>omega
  ·rw [Lib.nDigits_small (by omega)];omega
 unfold jl at h;unfold Lib.itoa;split
 ·have:=key n.natAbs (by omega);simp;omega
 ·have:=key n.toNat (by omega);omega
theorem vd (n:Int) (w:World) (hn:jl n) (ht:tj w):
  CP 297 #[.int .i64 n] w fun e w'=>e= .returned (.string (str (Lib.itoa n)))∧Below w.heap.size w w':=by
 refine aU (xu n w) ?_;refine(Tryz.strconv_Itoa n hn.1 hn.2 w ht).mono ?_;rintro e w' ⟨rfl,k,os,rfl⟩;exact⟨_,rfl,rfl,Lib.below_grow _ w (Nat.le_refl _) k os⟩
theorem uK (xs:List (List UInt8)) (s:List UInt8):cw xs++ [.string (str s)]=cw (xs++ [s]):=by simp [cw]
theorem fV {base:Nat} {w:World} {a:Option Addr} {n c:Nat} {xs:List (List UInt8)} (h:w.ownsRow base bE 1 (.slice a n c) n (cw xs)) (s:List UInt8) (hx:xs.length≤1000000) (hB:base≤w.heap.size):
  ∃a' c' w3,(Builtin.append_ #[da,da] da #[.slice a n c,.slice (some (nb w)) 1 1]).run Tryz.prog (w.alloc (.cells #[.string (str s)] bE))= .ok (.slice a' (n+1) c') w3∧
   w3.ownsRow base bE 1 (.slice a' (n+1) c') (n+1) (cw (xs++ [s]))∧∀w0,Below base w0 w→Below base w0 w3:=by
 have hn:=(bv.of_own h).2.1;obtain⟨a',c',w4,hr,hown4,hg,_⟩:=eG (P:=Tryz.prog) da bE fp fO rfl (by decide) h [.string (str s)] rfl (by intro u hu;simp at hu;subst hu;rfl) (by omega) (by omega) hB;rw [uK]at hown4;exact⟨a',c',w4,hr,hown4,fun w0 hb=>di hb h hg hB⟩
theorem se (a b:Option Addr) (ca cb:Nat) (xs ys:List (List UInt8)) (w:World) (hx:bv w a xs) (hy:bv w b ys) (hl:xs.length≤1000000):
  CP 99 #[.slice a xs.length ca,.slice b ys.length cb] w fun e w'=>e= .returned (.bool (decide (xs=ys)))∧Below w.heap.size w w':=by
 refine aU (zW a xs.length ca b ys.length cb w) ?_;refine aa.mk ?_ ?_
 ·intro h;refine⟨?_,Below.refl _ _⟩;rw [decide_eq_false];intro e;subst e;simp at h
 ·intro h;have hlen:(xs.length:Int)=ys.length:=by simpa using h
  have hlen:xs.length=ys.length:=by omega
  intro I hI;have key:=jr (α:=Bool×World) xs.length (fun i x=>xs.take i=ys.take i∧Below w.heap.size w x.2) (fun i x=>I [.int .i64 (i:Int),.bool x.1] x.2) ?_ ?_ 0 (Nat.zero_le _) (false,w)
  ·exact key ⟨rfl,Below.refl _ _⟩
  ·rintro⟨y4,w1⟩ ⟨he,hB⟩;refine hI _ _ _ (aa.no (by simp) ⟨?_,hB⟩);rw [List.take_length,hlen,List.take_length]at he;rw [decide_eq_true he]
  ·rintro i hi ih ⟨y4,w1⟩ ⟨he,hB⟩;dsimp only at he hB;refine hI _ _ _ (aa.yes (by simp;omega) ?_);rintro w2 rfl;obtain⟨x,hxa,_,hcx⟩:=(hx.on hB) i _ (List.getElem?_eq_getElem hi);obtain⟨y,hyb,_,hcy⟩:=(hy.on hB) i _ (List.getElem?_eq_getElem (show i<ys.length by omega));refine ae.mk x hxa ⟨by omega,by omega,str xs[i],by simpa using hcx,ae.mk y hyb ⟨by omega,by omega,str ys[i],by simpa using hcy,aa.mk ?_ ?_⟩⟩
   ·intro hne;refine⟨?_,hB.drew⟩;rw [decide_eq_false];intro e;subst e;simp at hne
   ·intro hne;rw [bP]at hne;have heq:xs[i]=ys[i]:=by simpa using hne
    refine Ar.ok64 (by omega) (by omega) (ih (y4,w1.drew) ⟨?_,hB.drew⟩);rw [List.take_add_one,List.take_add_one,List.getElem?_eq_getElem hi,List.getElem?_eq_getElem (show i<ys.length by omega),he,heq]
abbrev Mx (w:World):Prop:=∃m,w.cell? ⟨0,0,none⟩=some (.int .i64 m)
theorem Mx.on {w w':World} (h:Mx w) (hb:Below w.heap.size w w'):Mx w':=by
 obtain⟨m,hm⟩:=h;have hlt:0<w.heap.size:=World.block_lt_of_cell? _ _ hm;exact⟨m,by rw [hb.cell hlt];exact hm⟩
theorem H4 (l:List UInt8) (w:World) (hl:l.length≤1000000) (hm:Mx w):
  CP 186 #[.string (str l)] w fun e w'=>e= .returned (.slice (some (nb w)) (aw 32 l).length (aw 32 l).length)∧bv w' (some (nb w)) (aw 32 l)∧Below w.heap.size w w':=by
 refine aU (uX (str l) w) ?_;obtain⟨m,hm⟩:=hm;refine(Tryz.strings_Split (str l) ⟨#[32]⟩ m w (by rw [aj];omega) hm (Nat.le_refl 1)).mono ?_;rintro e w1 ⟨rfl,rfl⟩;have hlen:(aw 32 l).length=Lib.countB (str l) ⟨#[32]⟩+1:=xe 32 (str l);refine⟨_,_,_,rfl,by rw [hlen],?_,ag _ _⟩;intro j s hj;refine⟨_,rfl,by rw [ax];exact Nat.lt_succ_self _,?_⟩;rw [aA,Nat.zero_add,aT];rw [show aw 32 l=aw 32 (str l).data.toList from rfl, ←qA]at hj;rw [List.getElem?_map,Option.map_eq_some_iff]at hj;obtain⟨x,hx,rfl⟩:=hj;simp only [List.getElem?_toArray,List.getElem?_map,hx,Option.map_some]
theorem Ai (l:List UInt8) (w:World) (hl:l.length≤100000) (hm:Mx w):
  CP 128 #[.string (str l)] w fun e w'=>∃a c,e= .returned (.tuple #[.slice a ((aw 10 l).length-1) c,.bool (decide ((aw 10 l).getLast?=some []))])∧bv w' a (aw 10 l).dropLast∧Below w.heap.size w w':=by
 refine aU (xV (str l) w) ?_;intro I hI;have key:∀(k:Nat) (r:List UInt8),r.length≤k→∀(done:List (List UInt8)) (a:Option Addr) (n c:Nat) (y3:Bool) (yA:Option Addr) (yN yC:Nat) (w1:World),aw 10 l=done++aw 10 r→done.length+r.length≤l.length→
   w1.ownsRow w.heap.size bE 1 (.slice a n c) n (cw done)→Below w.heap.size w w1→I [.slice a n c,.bool y3,.slice yA yN yC,.string (str r)] w1:=by
  intro k;induction k with
  |zero=>
   intro r hr done a n c y3 yA yN yC w1 hcut hle hown hB;have:r= []:=List.eq_nil_of_length_eq_zero (by omega);subst this;refine hI _ _ _ _ _ _ _ _ _ ?_;obtain⟨m,hm⟩:=hm.on hB;refine(Tryz.strings_Cut (str []) ⟨#[10]⟩ m w1 (by decide) hm).mono ?_;rintro e w2 ⟨rfl,q,rfl⟩;refine⟨_,_,_,rfl,?_⟩;rw [show Lib.cut (str []).data.toList (⟨#[10]⟩:ByteArray).data.toList=([],[],false)from rfl];refine aa.yes rfl ?_;obtain⟨hrow,hn,hc⟩:=bv.of_own hown;have hrow:bv (w1.drewN q) a done:=hrow;have hcut:aw 10 l=done++ [[]]:=hcut;refine⟨a,c,?_,?_,hB.trans ⟨rfl,rfl,rfl,Nat.le_refl _,fun _ _=>rfl⟩⟩
   ·rw [hcut];simp [hn]
   ·rw [hcut];simpa using hrow
  |succ k ih=>
   intro r hr done a n c y3 yA yN yC w1 hcut hle hown hB;refine hI _ _ _ _ _ _ _ _ _ ?_;obtain⟨m,hm1⟩:=hm.on hB;refine(Tryz.strings_Cut (str r) ⟨#[10]⟩ m w1 (by rw [aj];omega) hm1).mono ?_;rintro e w2 ⟨rfl,q,rfl⟩;refine⟨_,_,_,rfl,?_⟩;have hBq:Below w.heap.size w (w1.drewN q):=hB.trans ⟨rfl,rfl,rfl,Nat.le_refl _,fun _ _=>rfl⟩;obtain⟨hrow,hn,hc⟩:=bv.of_own hown;have hrow:bv (w1.drewN q) a done:=hrow;rw [show(str r).data.toList=r from rfl,show(⟨#[10]⟩:ByteArray).data.toList= [10]from rfl];rcases oT 10 r with h |⟨i,h,hi⟩
   ·rw [Ew 10 r h];rw [nC 10 r h]at hcut;refine aa.yes rfl ?_;refine⟨a,c,?_,?_,hBq⟩
    ·rw [hcut,show(⟨#[]⟩:ByteArray)=str []from rfl,bP];simp [hn]
    ·rw [hcut];simpa using hrow
   ·rw [F1 10 r i h];rw [qS 10 r i h]at hcut;refine aa.no rfl ?_;rintro w3 rfl;obtain⟨a',c',w4,hrun,hown4,hB4⟩:=fV (w:=w1.drewN q) (base:=w.heap.size) hown (r.take i) (by omega) hBq.size;refine⟨_,_,_,w4,hrun,?_⟩;refine ih (r.drop (i+1)) (by rw [List.length_drop];omega) (done++ [r.take i]) a' (n+1) c' y3 yA yN yC w4 (by rw [hcut];simp) ?_ hown4 (hB4 _ hBq);rw [List.length_append,List.length_drop];simp;omega
 exact key l.length l (Nat.le_refl _) [] none 0 0 false none 0 0 w rfl (by simp) (co _ _ _ _) (Below.refl _ _)
theorem nW (l:List UInt8) (c:UInt8) (w:World) (hl:l.length≤100000):
  CP 92 #[.string (str l),.int .u8 c.toNat] w fun e w'=>∃a k,e= .returned (.slice a (aw c l).length k)∧(aw c l).length≤k∧bv w' a (aw c l)∧Below w.heap.size w w':=by
 refine aU (zz (str l) c.toNat w) ?_;intro I hI;rw [aj]at hI;have key:=jr (α:=Nat×Option Addr×Nat×Nat×World) (l.length+1)
  (fun i x=>∃acc,x.2.2.2.2.ownsRow w.heap.size bE 1 (.slice x.2.1 x.2.2.1 x.2.2.2.1) x.2.2.1 (cw acc)∧Below w.heap.size w x.2.2.2.2∧acc.length≤i∧
   ((i≤l.length∧x.1≤i∧aw c l=acc++aw c (l.drop x.1)∧c∉(l.drop x.1).take (i-x.1))∨(i=l.length+1∧aw c l=acc)))
  (fun i x=>I [.int .i64 (i:Int),.int .i64 (x.1:Int),.slice x.2.1 x.2.2.1 x.2.2.2.1] x.2.2.2.2) ?_ ?_ 0 (Nat.zero_le _) (0,none,0,0,w)
 ·exact key ⟨[],co _ _ _ _,Below.refl _ _,Nat.le_refl _,.inl ⟨Nat.zero_le _,Nat.le_refl _,rfl,by simp⟩⟩
 ·rintro⟨fr,a,n,k,w1⟩ ⟨acc,hown,hB,_,hh⟩;dsimp only at hown hB hh;refine hI _ _ _ _ _ _ (aa.no (decide_eq_false (by omega)) ?_);rcases hh with⟨h,_⟩ |⟨_,h⟩
  ·omega
  ·obtain⟨hrow,hn,hc⟩:=bv.of_own hown;rw [h, ←hn];exact⟨_,_,rfl,hc,hrow,hB⟩
 ·rintro i hi ih ⟨fr,a,n,k,w1⟩ ⟨acc,hown,hB,hacc,hh⟩;dsimp only at hown hB hh;rcases hh with⟨hil,hfr,hcut,hno⟩ |⟨h,_⟩
  case inr=>omega
  refine hI _ _ _ _ _ _ (aa.yes (decide_eq_true (by omega)) ?_);intro J hJ;refine aa.mk ?_ ?_
  ·intro h;have h:(i:Int)=l.length:=by simpa using h
   have h:i=l.length:=by omega
   refine⟨by omega,by omega,by omega,?_⟩;rw [Int.toNat_natCast,Int.toNat_natCast,iw];rintro w2 rfl;obtain⟨a',c',w3,hrun,hown3,hB3⟩:=fV hown ((l.drop fr).take (i-fr)) (by omega) hB.size;refine⟨_,_,_,w3,hrun,Ar.ok64 (by omega) (by omega) (hJ _ _ _ _ _ (Ar.ok64 (by omega) (by omega) ?_))⟩;refine ih (i+1,a',n+1,c',w3) ⟨_,hown3,hB3 _ hB,by simp;omega,.inr ⟨by omega,?_⟩⟩;rw [hcut];refine congrArg (acc++ ·) ?_;have hall:(l.drop fr).take (i-fr)=l.drop fr:=List.take_of_length_le (by rw [List.length_drop];omega);rw [hall]at hno⊢;exact sQ c _ hno
  ·intro h;have h:¬(i:Int)=l.length:=by simpa using h
   have hil:i<l.length:=by omega
   refine⟨by omega,by omega,?_⟩;rw [cd l i hil];refine aa.mk ?_ ?_
   ·intro he;have he:l[i]=c:=by
     have:(l[i].toNat:Int)=c.toNat:=by simpa using he
     exact UInt8.toNat_inj.1 (by omega)
    refine⟨by omega,by omega,by omega,?_⟩;rw [Int.toNat_natCast,Int.toNat_natCast,iw];rintro w2 rfl;obtain⟨a',c',w3,hrun,hown3,hB3⟩:=fV hown ((l.drop fr).take (i-fr)) (by omega) hB.size;refine⟨_,_,_,w3,hrun,Ar.ok64 (by omega) (by omega) (hJ _ _ _ _ _ (Ar.ok64 (by omega) (by omega) ?_))⟩;refine ih (i+1,a',n+1,c',w3) ⟨_,hown3,hB3 _ hB,by simp;omega,.inl ⟨by omega,by omega,?_,by simp⟩⟩;have hsplit:l.drop fr=(l.drop fr).take (i-fr)++c::l.drop (i+1):=by
     conv=>lhs;rw [←List.take_append_drop (i-fr) (l.drop fr)]
     rw [List.drop_drop,show fr+(i-fr)=i by omega,List.drop_eq_getElem_cons hil,he]
    rw [hcut];conv=>lhs;rw [hsplit,qm c _ _ hno]
    simp
   ·intro he;have he:l[i]≠c:=by
     intro e;rw [e]at he;simp at he
    refine hJ _ _ _ _ _ (Ar.ok64 (by omega) (by omega) ?_);refine ih (fr,a,n,k,w1) ⟨acc,hown,hB,by omega,.inl ⟨by omega,by omega,hcut,?_⟩⟩;rw [show i+1-fr=(i-fr)+1 by omega,List.take_add_one,List.getElem?_drop,show fr+(i-fr)=i by omega,List.getElem?_eq_getElem hil];simp only [Option.toList_some,List.mem_append,List.mem_singleton,not_or];exact⟨hno,fun e=>he e.symm⟩
theorem AR (k:Nat) (xs:List (List UInt8)) (h:∀x∈xs,x.length≤k):Lib.lens xs≤k*xs.length:=by
 induction xs with
 |nil=>simp [Lib.lens]
 |cons x xs ih=>
  have h1:=h x (by simp);have h2:=ih fun y hy=>h y (by simp [hy]);simp [Lib.lens,Nat.mul_add]at*;omega
theorem mj (b:UInt8) (w:World):(convert gP bE (.slice (some (nb w)) 1 1)).run Tryz.prog (w.alloc (.cells #[.int .u8 b.toNat] uO))= .ok (.string (str [b])) (w.alloc (.cells #[.int .u8 b.toNat] uO)):=
 run_convert_bytes_back (P:=Tryz.prog) (w.alloc (.cells #[.int .u8 b.toNat] uO)) gP bE uO (nb w) 1 [b] eE yF iW (by
   intro j hj;rw [aA,Nat.zero_add,aT]
   match j,hj with
   |0,_=>rfl)
theorem wb (m:Nat) (h:m<10):IntKind.wrap .u8 ((48:Int)+(m:Int))=((UInt8.ofNat (48+m)).toNat:Int):=by
 rw [bY (k:=.u8) (by simp [IntKind.min,IntKind.signed];omega) (by simp [IntKind.max,IntKind.signed,IntKind.bits];omega),nj m h];omega
theorem A6 (m:Nat) (h:10≤m):Lib.decDigits m=Lib.decDigits (m/10)++ [UInt8.ofNat (48+m%10)]:=by
 rw [Lib.decDigits,dif_neg (by omega)]
theorem cA (n:Int) (w:World) (hn:jl n):
  CP 137 #[.int .i64 n] w fun e w'=>e= .returned (.string (str (Lib.itoa n)))∧Below w.heap.size w w':=by
 refine aU (x_ n w) ?_;have hlen:=aW n hn;refine aa.mk ?_ ?_
 ·intro h;have h:=of_decide_eq_true h;obtain⟨u,rfl⟩:∃u:Nat,n=u:=⟨n.toNat,by omega⟩;rw [Lib.itoa_nonneg]at hlen⊢;intro I hI;have hu:u<9223372036854775808:=by have:=hn.2;omega
  have key:∀(k:Nat) (m:Nat),m≤k→m<9223372036854775808→∀(s:List UInt8) (w1:World),Below w.heap.size w w1→((s= []∧m=u)∨(s≠ []∧0<m∧Lib.decDigits u=Lib.decDigits m++s)∨(s≠ []∧m=0∧Lib.decDigits u=s))→I [.string (str s),.int .i64 (m:Int)] w1:=by
   intro k;induction k using Nat.strongRecOn with
   |_ k ih=>
    intro m hmk hm63 s w1 hB hs;have hslen:s.length≤21:=by
     rcases hs with⟨h,_⟩ |⟨_,_,h⟩ |⟨_,_,h⟩
     ·rw [h];simp
     ·rw [h]at hlen;simp at hlen;omega
     ·rw [h]at hlen;omega
    have hmod:Int.tmod (m:Int) 10=((m%10:Nat):Int):=rfl;have hdiv:Int.tdiv (m:Int) 10=((m/10:Nat):Int):=rfl;have next:(0<m∨s= [])→∀w2,w2=w1.alloc (.cells #[Value.int .u8 (IntKind.wrap .u8 ((48:Int)+((m%10:Nat):Int)))] uO)→
      ∃s_4:ByteArray,∃w3:World,(convert gP bE (Value.slice (some (nb w1)) 1 1)).run Tryz.prog w2= .ok (Value.string s_4) w3∧
      (((s_4:ByteArray).size+(str s:ByteArray).size:Nat):Int)≤IntKind.i64.max∧(10:Int)≠0∧
      I [Value.string ((s_4:ByteArray)++(str s:ByteArray)),Value.int .i64 (IntKind.wrap .i64 ((m/10:Nat):Int))] w3:=by
     rintro hgo w2 rfl;rw [wb _ (by omega)];refine⟨_,_,mj _ _,?_,by decide,?_⟩
     ·rw [aj,aj];simp [IntKind.max,IntKind.signed,IntKind.bits];omega
     ·rw [bY (k:=.i64) (by simp [IntKind.min,IntKind.signed,IntKind.bits];omega) (by simp [IntKind.max,IntKind.signed,IntKind.bits];omega),bL];by_cases h10:m<10
      ·have hm0:m/10=0:=by omega
       have hend:∀w2,Below w.heap.size w w2→I [.string (str ([UInt8.ofNat (48+m%10)]++s)),.int .i64 ((0:Nat):Int)] w2:=by
        intro w2 hB2;refine hI _ _ _ (aa.no (by simp) (aa.no ?_ ⟨?_,hB2⟩))
        ·rw [ia];simp
        ·rw [show m%10=m by omega, ←Lib.decDigits_one h10];rcases hs with⟨h,hmu⟩ |⟨_,_,h⟩ |⟨h,h0,_⟩
         ·rw [h, ←hmu];simp
         ·rw [h]
         ·rcases hgo with h1 |h1
          ·omega
          ·exact absurd h1 h
       rw [hm0];exact hend _ (hB.alloc hB.size _)
      ·refine ih (m/10) (by omega) (m/10) (Nat.le_refl _) (by omega) _ _ (hB.alloc hB.size _) (.inr (.inl ⟨by simp,by omega,?_⟩));have hd:=A6 m (by omega);rcases hs with⟨h,hmu⟩ |⟨_,_,h⟩ |⟨_,h0,_⟩
       ·rw [h, ←hmu,hd];simp
       ·rw [h,hd];simp
       ·omega
    refine hI _ _ _ (aa.mk ?_ ?_)
    ·intro hpos;have hpos:=of_decide_eq_true hpos;rw [hmod,hdiv];exact⟨by decide,Ar.ok64 (by omega) (by omega) (next (.inl (by omega)))⟩
    ·intro hpos;have hpos:=of_decide_eq_false hpos;refine aa.mk ?_ ?_
     ·intro hs0;rw [ia]at hs0;rw [hmod,hdiv];exact⟨by decide,Ar.ok64 (by omega) (by omega) (next (.inr (of_decide_eq_true hs0)))⟩
     ·intro hs0;rw [ia]at hs0;have hs0:=of_decide_eq_false hs0;refine⟨?_,hB⟩;rcases hs with⟨h,_⟩ |⟨_,h,_⟩ |⟨_,_,h⟩
      ·exact absurd h hs0
      ·omega
      ·rw [h]
  exact key u u (Nat.le_refl _) hu [] w (Below.refl _ _) (.inl ⟨rfl,rfl⟩)
 ·intro h;have h:=of_decide_eq_false h;obtain⟨u,hu0,rfl⟩:∃u:Nat,1≤u∧n= -(u:Int):=⟨(-n).toNat,by omega,by omega⟩;rw [Lib.itoa_neg u hu0]at hlen⊢;intro I hI;have hu:u≤9223372036854775808:=by have:=hn.1;omega
  have key:∀(k:Nat) (m:Nat),m≤k→m≤9223372036854775808→∀(s:List UInt8) (w1:World),Below w.heap.size w w1→((0<m∧Lib.decDigits u=Lib.decDigits m++s)∨(m=0∧Lib.decDigits u=s))→I [.string (str s),.int .i64 (-(m:Int))] w1:=by
   intro k;induction k using Nat.strongRecOn with
   |_ k ih=>
    intro m hmk hm63 s w1 hB hs;have hslen:s.length≤21:=by
     rcases hs with⟨_,h⟩ |⟨_,h⟩
     ·rw [h]at hlen;simp at hlen;omega
     ·rw [h]at hlen;simp at hlen;omega
    have hmod:Int.tmod (-(m:Int)) 10= -((m%10:Nat):Int):=by rw [Int.neg_tmod];rfl
    have hdiv:Int.tdiv (-(m:Int)) 10= -((m/10:Nat):Int):=by rw [Int.neg_tdiv];rfl
    refine hI _ _ _ (aa.mk ?_ ?_)
    ·intro hpos;have hpos:=of_decide_eq_true hpos;rw [hmod,hdiv,show(48:Int)- -((m%10:Nat):Int)=48+((m%10:Nat):Int) by omega];refine⟨by decide,Ar.ok64 (by omega) (by omega) ?_⟩;rw [wb _ (by omega)];rintro w2 rfl;refine⟨_,_,mj _ _,?_,by decide,?_⟩
     ·rw [aj,aj];simp [IntKind.max,IntKind.signed,IntKind.bits];omega
     ·rw [bY (k:=.i64) (by simp [IntKind.min,IntKind.signed,IntKind.bits];omega) (by simp [IntKind.max,IntKind.signed,IntKind.bits];omega),bL];refine ih (m/10) (by omega) (m/10) (Nat.le_refl _) (by omega) _ _ (hB.alloc hB.size _) ?_;rcases hs with⟨_,h⟩ |⟨h0,_⟩
      ·by_cases h10:m<10
       ·right;refine⟨by omega,?_⟩;rw [h,Lib.decDigits_one h10,show m%10=m by omega]
       ·left;refine⟨by omega,?_⟩;rw [h,A6 m (by omega)];simp
      ·omega
    ·intro hpos;have hpos:=of_decide_eq_false hpos;refine⟨?_,?_,hB⟩
     ·rw [show(⟨#[45]⟩:ByteArray)=str [45]from rfl,aj,aj];simp [IntKind.max,IntKind.signed,IntKind.bits];omega
     ·rw [show(⟨#[45]⟩:ByteArray)=str [45]from rfl,bL];rcases hs with⟨h,_⟩ |⟨_,h⟩
      ·omega
      ·rw [h];rfl
  exact key u u (Nat.le_refl _) hu [] w (Below.refl _ _) (.inl ⟨by omega,by simp⟩)
def BH:Option Nat→Value
 |some u=>.tuple #[.int .i64 u,.bool true]
 |none=>.tuple #[.int .i64 0,.bool false]
theorem aa.share {b c:Bool} {x y A B:Prop} (hx:b=true→x∧y) (hA:b=true→c=true→A) (hB:(b=true→c=false)→B):aa b (x∧y∧aa c A B) B:=by
 refine aa.mk (fun hb=>⟨(hx hb).1,(hx hb).2,aa.mk (hA hb) fun hc=>hB fun _=>hc⟩) fun hb=>hB fun e=>?_;rw [hb]at e;cases e
theorem rZ (l:List UInt8) (most:Int) (w:World) (hl:l.length≤1000000):
  CP 135 #[.string (str l),.int .i64 most] w fun e w'=>e= .returned (BH (dF l most))∧w'=w:=by
 refine aU (vD (str l) most w) ?_;have none_of:(∀u:Nat,u≤mI→(u:Int)≤most→Lib.decDigits u≠l)→Ending.returned (Value.tuple #[.int .i64 0,.bool false])= .returned (BH (dF l most)):=fun h=>by rw [nO l most h];rfl
 refine aa.mk ?_ ?_
 ·intro h;refine⟨none_of fun u _ _ e=>?_,rfl⟩;have:l.length=0:=by simpa [aj]using h
  exact tZ u (by rw [e];exact List.eq_nil_of_length_eq_zero this)
 ·intro h;have hne:l≠ []:=by
   intro e;subst e;simp [aj]at h
  have hpos:0<l.length:=List.length_pos_iff.2 hne;refine aa.mk ?_ ?_
  ·intro h;have h:=of_decide_eq_true h;rw [aj]at h;refine⟨none_of fun u hu _ e=>?_,rfl⟩;have:=yX 18 u (by unfold mI at hu;omega);rw [e]at this;omega
  ·intro h19;have h19:=of_decide_eq_false h19;rw [aj]at h19;refine aa.share ?_ ?_ ?_
   ·intro h1;have h1:=of_decide_eq_true h1;exact⟨by decide,by omega⟩
   ·intro h1 h48;have h1:=of_decide_eq_true h1;rw [aj]at h1;refine⟨none_of fun u _ _ e=>?_,rfl⟩;have hd:=(oe u).2.2 (by rw [e];omega);apply hd;rw [e,List.head?_eq_getElem?,List.getElem?_eq_getElem hpos];have hb:=cd l 0 hpos;rw [show((0:Nat):Int)=0 from rfl]at hb;rw [hb]at h48;have h48:(l[0].toNat:Int)=48:=by simpa using h48
    congr 1;exact UInt8.toNat_inj.1 (by show l[0].toNat=48;omega)
   ·intro hno I hI;have hhead:1<l.length→l.head?≠some 48:=by
     intro h1 e;have h48:=hno (decide_eq_true (by rw [aj];omega));have hb:=cd l 0 hpos;rw [show((0:Nat):Int)=0 from rfl]at hb;rw [hb]at h48;rw [List.head?_eq_getElem?,List.getElem?_eq_getElem hpos]at e;simp only [Option.some.injEq]at e;rw [e]at h48;simp at h48
    rw [aj]at hI;have key:=jr (α:=Nat×Bool×Int×World) l.length
     (fun i x=>x.1=gz 0 (l.take i)∧(∀b∈l.take i,rN b)∧x.1≤mI∧x.2.2.2=w)
     (fun i x=>I [.int .i64 (i:Int),.int .i64 (x.1:Int),.bool x.2.1,.int .i64 x.2.2.1] x.2.2.2) ?_ ?_ 0 (Nat.zero_le _) (0,false,0,w)
    ·exact key ⟨by rw [List.take_zero,vI],by simp,by simp,rfl⟩
    ·rintro⟨n,y5,y4,w1⟩ ⟨hn,hd,hmax,hw⟩;dsimp only at hn hmax hw;subst hw;rw [List.take_length]at hn hd;refine hI _ _ _ _ _ (aa.no (by simp) (aa.mk ?_ ?_))
     ·intro hm;have hm:=of_decide_eq_true hm;refine⟨none_of fun u _ hu e=>?_,rfl⟩;rw [←e,mg]at hn;omega
     ·intro hm;have hm:=of_decide_eq_false hm;refine⟨?_,rfl⟩;rw [jI l most n hmax (by omega) (by rw [hn];exact jC l.length l (Nat.le_refl _) ⟨hne,hd,hhead⟩)];rfl
    ·rintro i hi ih ⟨n,y5,y4,w1⟩ ⟨hn,hd,hmax,hw⟩;dsimp only at hn hmax hw;subst hw;unfold mI at hmax;have bad:¬rN l[i]→Ending.returned (Value.tuple #[.int .i64 0,.bool false])= .returned (BH (dF l most)):=fun hb=>none_of fun u _ _ e=>hb (eL u _ (by rw [e];exact List.getElem_mem hi));have hb8:=l[i].toNat_lt;refine hI _ _ _ _ _ (aa.yes (by simp;omega) ⟨by omega,by omega,?_⟩);rw [cd l i hi];refine aa.mk ?_ ?_
     ·intro h;have h:=of_decide_eq_true h;exact⟨bad fun hb=>by unfold rN at hb;omega,rfl⟩
     ·intro h48;have h48:=of_decide_eq_false h48;refine⟨by omega,by omega,aa.mk ?_ ?_⟩
      ·intro h;have h:=of_decide_eq_true h;exact⟨bad fun hb=>by unfold rN at hb;omega,rfl⟩
      ·intro h57;have h57:=of_decide_eq_false h57;refine⟨by omega,by omega,Ar.ok (k:=.u8) (by simp [IntKind.min,IntKind.signed];omega) (by simp [IntKind.max,IntKind.signed,IntKind.bits];omega) ?_⟩;rw [bY (k:=.i64) (z:=(l[i].toNat:Int)-48) (by simp [IntKind.min,IntKind.signed,IntKind.bits];omega) (by simp [IntKind.max,IntKind.signed,IntKind.bits];omega)];refine Ar.ok64 (by omega) (by omega) ⟨by decide,?_⟩;have hq:Int.tdiv ((9223372036854775807:Int)- ((l[i].toNat:Int)-48)) 10=(((9223372036854775807- (l[i].toNat-48))/10:Nat):Int):=by
        rw [show(9223372036854775807:Int)- ((l[i].toNat:Int)-48)=((9223372036854775807- (l[i].toNat-48):Nat):Int) by omega];rfl
       rw [hq,bY (k:=.i64) (by simp [IntKind.min,IntKind.signed,IntKind.bits];omega) (by simp [IntKind.max,IntKind.signed,IntKind.bits];omega)];have htake:l.take (i+1)=l.take i++ [l[i]]:=by rw [List.take_add_one,List.getElem?_eq_getElem hi];rfl
       have hnv:gz 0 (l.take (i+1))=10*n+(l[i].toNat-48):=by rw [htake,hG,mn, ←hn];rfl
       refine aa.mk ?_ ?_
       ·intro hbig;have hbig:=of_decide_eq_true hbig;refine⟨none_of fun u hu _ e=>?_,rfl⟩;have hv:=mg u;rw [e]at hv;have hge:gz 0 (l.take (i+1))≤gz 0 l:=by
         conv=>rhs;rw [←List.take_append_drop (i+1) l,hG]
         exact uM _ _
        unfold mI at hu;omega
       ·intro hbig;have hbig:=of_decide_eq_false hbig;refine Ar.ok64 (by omega) (by omega) ⟨by omega,by omega,Ar.ok (k:=.u8) (by simp [IntKind.min,IntKind.signed];omega) (by simp [IntKind.max,IntKind.signed,IntKind.bits];omega) ?_⟩;rw [bY (k:=.i64) (z:=(l[i].toNat:Int)-48) (by simp [IntKind.min,IntKind.signed,IntKind.bits];omega) (by simp [IntKind.max,IntKind.signed,IntKind.bits];omega)];refine Ar.ok64 (by omega) (by omega) (Ar.ok64 (by omega) (by omega) ?_);rw [show(10:Int)*n+((l[i].toNat:Int)-48)=((10*n+(l[i].toNat-48):Nat):Int) by omega];refine ih (10*n+(l[i].toNat-48),y5,y4,w1) ⟨hnv.symm,?_,by unfold mI;omega,rfl⟩;intro b hb;rw [htake]at hb;rcases List.mem_append.1 hb with hb |hb
        ·exact hd b hb
        ·simp only [List.mem_singleton]at hb;subst hb;unfold rN;omega
theorem Fq (n:Nat) (w:World):(do eqGuard .neq 372 (.tmp n) (.const Value.nilIface) Value.nilIface Value.nilIface;binOp .neq 372 Value.nilIface Value.nilIface).run Tryz.prog w= .ok (.bool false) w:=by kernel_rfl
theorem wU (k:TypeId) (p:Option Addr) (n:Nat) (w:World):(do eqGuard .neq 372 (.tmp n) (.const Value.nilIface) (Value.iface k (.pointer p)) Value.nilIface;binOp .neq 372 (Value.iface k (.pointer p)) Value.nilIface).run Tryz.prog w= .ok (.bool true) w:=by kernel_rfl
abbrev je (w:World):Prop:=(∃tp p,w.var? Tryz.prog "strconv.ErrSyntax" =some #[.iface tp p])∧(∃tp p,w.var? Tryz.prog "strconv.ErrRange" =some #[.iface tp p])
theorem C9 {P:Program} {w w':World} {n:String} {cs:Array Value} (h:w.var? P n=some cs) (hb:Below w.heap.size w w'):w'.var? P n=some cs:=by
 unfold World.var? at*;cases hg:P.globalNamed n with
 |none=>simp [hg]at h
 |some g=>
  simp only [hg,Option.bind_some]at h⊢;have hlt:g<w.heap.size:=by
   rcases Nat.lt_or_ge g w.heap.size with h' |h'
   ·exact h'
   ·rw [Array.getElem?_eq_none h']at h;simp at h
  rw [hb.block g hlt];exact h
theorem je.on {w w':World} (h:je w) (hb:Below w.heap.size w w'):je w':=by
 obtain⟨⟨t1,p1,h1⟩,⟨t2,p2,h2⟩⟩:=h;exact⟨⟨t1,p1,C9 h1 hb⟩,⟨t2,p2,C9 h2 hb⟩⟩
theorem xC {l:List UInt8} {v:Int} (h:Lib.atoiAll l= .ok v):jl v:=by
 unfold jl;cases l with
 |nil=>simp [Lib.atoiAll]at h
 |cons c r=>
  simp only [Lib.atoiAll]at h;split at h
  ·cases h
  ·cases h
  ·split at h
   ·cases h
   ·split at h
    ·cases h
    ·injection h with h
     split at h<;>omega
theorem qv (l:List UInt8) (most:Int) (w:World) (hl:l.length≤1000000) (ht:tj w) (he:je w):
  CP 270 #[.string (str l),.int .i64 most] w fun e w'=>e= .returned (BH (dF l most))∧Below w.heap.size w w':=by
 refine aU (xX (str l) most w) ?_;have none_of:(∀u:Nat,u≤mI→(u:Int)≤most→Lib.decDigits u≠l)→Ending.returned (Value.tuple #[.int .i64 0,.bool false])= .returned (BH (dF l most)):=fun h=>by rw [nO l most h];rfl
 have bad:∀ {tp:TypeId} {x:Int} {w1:World} {N:Nat},(∀v,Lib.atoiAll l≠ .ok v)→Below w.heap.size w w1→Ending.returned (Value.tuple #[.int .i64 0,.bool false])= .returned (BH (dF l most))∧Below w.heap.size w w1:=by
  intro tp x w1 N h hb;exact⟨none_of fun u hu _ e=>h u (by rw [←e];exact mq u hu),hb⟩
 cases h:Lib.atoiAll l;case ok v=>
  have hv:=xC h;refine(Tryz.strconv_Atoi_ok (str l) (by rw [aj];omega) v h w).mono ?_;rintro e w1 ⟨rfl,hw⟩;have hb:Below w.heap.size w w1:=by
   rcases hw with rfl |⟨t,rfl⟩
   ·exact Below.refl _ _
   ·exact Lib.bytesWorld_below _ _ _
  refine⟨_,_,rfl,_,_,Fq _ _,aa.no rfl (aa.mk ?_ ?_)⟩
  ·intro h0;have h0:=of_decide_eq_true h0;refine⟨none_of fun u hu _ e=>?_,hb⟩;rw [←e,mq u hu]at h;injection h with h
   omega
  ·intro h0;have h0:=of_decide_eq_false h0;refine aa.mk ?_ ?_
   ·intro hm;have hm:=of_decide_eq_true hm;refine⟨none_of fun u hu hum e=>?_,hb⟩;rw [←e,mq u hu]at h;injection h with h
    omega
   ·intro hm;have hm:=of_decide_eq_false hm;refine(vd v w1 hv (ht.on hb)).mono ?_;rintro e w3 ⟨rfl,h3⟩;have hb3:=ab hb h3;obtain⟨u,rfl⟩:∃u:Nat,v=u:=⟨v.toNat,by omega⟩;rw [Lib.itoa_nonneg];refine⟨_,rfl,aa.mk ?_ ?_⟩
    ·intro hne;rw [bP]at hne;have hne:Lib.decDigits u≠l:=by simpa using hne
     refine⟨none_of fun u' hu' _ e=>?_,hb3⟩;rw [←e,mq u' hu']at h;injection h with h
     have:u'=u:=by omega
     subst this;exact hne e
    ·intro heq;rw [bP]at heq;have heq:Lib.decDigits u=l:=by simpa using heq
     refine⟨?_,hb3⟩;have hmax:=hv.2;rw [jI l most u (by unfold mI;omega) (by omega) heq];rfl
 case range=>
  obtain⟨_,⟨tp,p,hvar⟩⟩:=he;refine(Tryz.strconv_Atoi_range_var (str l) (by rw [aj];omega) h tp p w hvar).mono ?_;rintro e w1 ⟨N,rfl,_,_,hb⟩;exact⟨_,_,rfl,_,_,wU _ _ _ _,aa.yes rfl (bad (tp:=tp) (x:=0) (N:=N) (fun v hv=>by rw [hv]at h;cases h) hb)⟩
 obtain⟨⟨tp,p,hvar⟩,_⟩:=he;refine(Tryz.strconv_Atoi_syntax_var (str l) (by rw [aj];omega) (by rw [show(str l).data.toList=l from rfl,h];trivial) tp p w hvar).mono ?_;rintro e w1 ⟨N,rfl,_,_,hb⟩;exact⟨_,_,rfl,_,_,wU _ _ _ _,aa.yes rfl (bad (tp:=tp) (x:=0) (N:=N) (fun v hv=>by rw [hv]at h;cases h) hb)⟩
theorem dW (a:Option Addr) (c:Nat) (xs:List Bs) (i:Nat) (w:World) (h:bv w a xs) (hl:∀x∈xs,x.length≤1000000) (hi:i≤1000000):
  CP 93 #[.slice a xs.length c,.int .i64 i] w fun e w'=>e= .returned (.int .i64 (aP xs i))∧Below w.heap.size w w':=by
 refine aU (zI a xs.length c i w) ?_;refine aa.mk ?_ ?_
 ·intro hc;have hc:=of_decide_eq_true hc;refine⟨?_,Below.refl _ _⟩;unfold aP;rw [List.getElem?_eq_none (by omega)]
 ·intro hc;have hc:=of_decide_eq_false hc;have hi:i<xs.length:=by omega
  obtain⟨x,hxa,_,hcx⟩:=h i _ (List.getElem?_eq_getElem hi);refine ae.mk x hxa ⟨by omega,by omega,str xs[i],by simpa using hcx,?_⟩;refine(rZ xs[i] cH w (hl _ (List.getElem_mem hi))).mono ?_;rintro e w1 ⟨rfl,hw⟩;subst w1;unfold aP dz;rw [List.getElem?_eq_getElem hi];cases hp:dF xs[i] cH with
  |none=>exact⟨_,_,rfl,aa.yes rfl ⟨by simp [hp,str],Below.refl _ _⟩⟩
  |some u=>exact⟨_,_,rfl,aa.no rfl ⟨by simp [hp,str],Below.refl _ _⟩⟩
theorem kY (a:Option Addr) (c:Nat) (xs:List Bs) (i:Nat) (w:World) (h:bv w a xs) (hl:∀x∈xs,x.length≤1000000) (hi:i≤1000000):
  CP 94 #[.slice a xs.length c,.int .i64 i] w fun e w'=>e= .returned (.string (str (cV xs i)))∧Below w.heap.size w w':=by
 refine aU (zi a xs.length c i w) ?_;refine aa.mk ?_ ?_
 ·intro hc;have hc:=of_decide_eq_true hc;refine⟨?_,Below.refl _ _⟩;unfold cV;rw [List.getElem?_eq_none (by omega)]
 ·intro hc;have hc:=of_decide_eq_false hc;have hi:i<xs.length:=by omega
  obtain⟨x,hxa,_,hcx⟩:=h i _ (List.getElem?_eq_getElem hi);refine ae.mk x hxa ⟨by omega,by omega,str xs[i],by simpa using hcx,?_⟩;refine(sy xs[i] w (Nat.le_trans (hl _ (List.getElem_mem hi)) (by omega))).mono ?_;rintro e w1 ⟨rfl,h1⟩;unfold cV;rw [List.getElem?_eq_getElem hi];cases hp:cB xs[i]with
  |none=>exact⟨_,_,rfl,aa.yes rfl ⟨by simp [hp,str],h1⟩⟩
  |some u=>exact⟨_,_,rfl,aa.no rfl ⟨by simp [hp,str],h1⟩⟩
theorem va (ls:List Bs) (l:Bs):cU (ls++ [l])=cU ls++(l++ [10]):=by simp [cU]
theorem si (ls:List Bs) (h:∀l∈ls,l.length≤10000):(cU ls).length≤10001*ls.length:=by
 induction ls with
 |nil=>simp [cU]
 |cons l r ih=>
  have h1:=h l (by simp);have h2:=ih fun y hy=>h y (by simp [hy]);simp [cU,Nat.mul_add]at*;omega
theorem fy (first:Bs) (more:List Bs) (hf:first.length≤1000) (hl:∀x∈more,x.length≤1000) (hn:more.length≤4):(bI (first::more)).length≤10000:=by
 unfold bI;rw [Lib.join_length];have:=AR 1000 (first::more) (fun x hx=>(List.mem_cons.1 hx).elim (fun e=>by rw [e];exact hf) (hl x));simp at this⊢;omega
theorem eP (l:Bs):(gv l).length≤2*l.length+1:=by
 unfold gv;split
 ·simp
 ·rw [dU];omega
noncomputable def iP:List Bs→Option (List Int)
 | []=>some []
 |w::r=>match dz w with
  |none=>none
  |some x=>(iP r).map (x:: ·)
theorem yu (l:List Bs):(if l.length=2 then iP l else none)=(fj l).map fun m=>[m.1,m.2]:=by
 match l with
 | []=>rfl
 | [_]=>rfl
 | [a,b]=>
  simp only [iP,fj];cases dz a<;>cases dz b<;>simp
 |_::_::_::_=>simp [fj]
theorem EQ (l:List Bs):(if l.length=3 then iP l else none)=(hO l).map fun m=>[m.1,m.2.1,m.2.2]:=by
 match l with
 | []=>rfl
 | [_]=>rfl
 | [_,_]=>rfl
 | [a,b,c]=>
  simp only [iP,hO];cases dz a<;>cases dz b<;>cases dz c<;>simp
 |_::_::_::_::_=>simp [hO]
def D5 (o:Option (List Int)) (e:Ending) (w':World):Prop:=match o with
 |some ns=>∃a c,e= .returned (.tuple #[.slice a ns.length c,.bool true])∧D2 w' a ns
 |none=>e= .returned (.tuple #[.slice none 0 0,.bool false])
theorem jm (a:Option Addr) (c:Nat) (ws:List Bs) (many:Nat) (w:World) (h:bv w a ws) (hl:∀x∈ws,x.length≤1000000) (hn:ws.length≤1000000) (ht:tj w) (he:je w):
  CP 268 #[.slice a ws.length c,.int .i64 many] w fun e w'=>D5 (if ws.length=many then iP ws else none) e w'∧Below w.heap.size w w':=by
 refine aU (wO a ws.length c many w) ?_;refine aa.mk ?_ ?_
 ·intro hc;have hc:(ws.length:Int)≠many:=by simpa using hc
  rw [if_neg (by omega)];exact⟨rfl,Below.refl _ _⟩
 ·intro hc;have hc:(ws.length:Int)=many:=by simpa using hc
  rw [if_pos (by omega)];intro I hI;refine aK (α:=Option Addr×Nat×Nat×List Int×World) ws.length
   (fun i x=>iP ws=(iP (ws.drop i)).map (x.2.2.2.1++ ·)∧x.2.2.2.2.ownsRow w.heap.size cE 1 (.slice x.1 x.2.1 x.2.2.1) x.2.1 (x.2.2.2.1.flatMap aQ)∧x.2.2.2.1.length=i∧Below w.heap.size w x.2.2.2.2)
   (fun i x=>I [.int .i64 (i:Int),.slice x.1 x.2.1 x.2.2.1,.bool false,.slice none 0 0] x.2.2.2.2) (none,0,0,[],w) ?_ ?_ ?_
  ·refine⟨?_,co _ _ _ _,rfl,Below.refl _ _⟩;cases hns:iP ws<;>simp [hns]
  ·rintro i hi ih ⟨oA,oN,oC,ns,w1⟩ ⟨hnum,hown,hlen,hB⟩;dsimp only at hnum hown hlen hB;refine hI _ _ _ _ _ _ _ _ _ (aa.yes (by simp;omega) ?_);obtain⟨x,hxa,_,hcx⟩:=(h.on hB) i _ (List.getElem?_eq_getElem hi);refine ae.mk x hxa ⟨by omega,by omega,str ws[i],by simpa using hcx,?_⟩;refine(qv ws[i] cH w1 (hl _ (List.getElem_mem hi)) (ht.on hB) (he.on hB)).mono ?_;rintro e w2 ⟨rfl,h2⟩;have hB2:=ab hB h2;rw [List.drop_eq_getElem_cons hi]at hnum;have hw:dz ws[i]=(dF ws[i] cH).map fun u=>(u:Int):=rfl;cases hp:dF ws[i] cH with
   |none=>
    refine⟨_,_,rfl,aa.yes rfl ⟨?_,hB2⟩⟩;rw [hnum,iP,hw,hp];rfl
   |some u=>
    refine⟨_,_,rfl,aa.no rfl ?_⟩;rintro w3 rfl;have hoN:oN=i:=by
     have:=(Rw.of_own (s:=⟨oA,oN,oC⟩) hown (fun _=>rfl) (by decide)).2;simp at this;omega
    obtain⟨a',c',w4,hr,hown4,hg,_⟩:=eG (P:=Tryz.prog) nT cE px um rfl (by decide) (aL hown h2) [.int .i64 (u:Int)] rfl (by intro v hv;simp at hv;subst hv;rfl) (by omega) (by omega) hB2.size;refine⟨a',oN+1,c',w4,hr,Ar.ok64 (by omega) (by omega) ?_⟩;refine ih (a',oN+1,c',ns++ [(u:Int)],w4) ⟨?_,?_,by simp [hlen],di hB2 (aL hown h2) hg hB2.size⟩
    ·rw [hnum,iP,hw,hp];dsimp only [Option.map_some];cases iP (ws.drop (i+1))<;>simp
    ·rw [List.flatMap_append];exact hown4
  ·rintro⟨oA,oN,oC,ns,w1⟩ ⟨hnum,hown,hlen,hB⟩;dsimp only at hnum hown hlen hB;refine hI _ _ _ _ _ _ _ _ _ (aa.no (by simp) ⟨?_,hB⟩);rw [List.drop_length]at hnum;rw [hnum];obtain⟨h1,h2⟩:=Rw.of_own (s:=⟨oA,oN,oC⟩) hown (fun _=>rfl) (by decide);dsimp only at h1 h2;simp only [iP,Option.map_some,List.append_nil];exact⟨oA,oC,by rw [h2],h1.ints⟩
abbrev tR:TypeId:=211
abbrev row1 (x:Sl) (s:ai):gB:=⟨x,lG,2,s.merges.flatMap aD⟩
abbrev row2 (x:Sl) (s:ai):gB:=⟨x,bE,1,s.tokens.flatMap be⟩
abbrev row3 (x:Sl) (s:ai):gB:=⟨x,kU,2,s.specials.flatMap av⟩
abbrev row4 (x:Sl) (s:ai):gB:=⟨x,wK,3,s.classes.flatMap aZ⟩
abbrev xW (x:Sl) (s:ai):gB:=⟨x,AN,2,s.joins.flatMap aD⟩
abbrev tQ (x:aG) (s:ai):List gB:=[row1 x.s1 s,row2 x.s2 s,row3 x.s3 s,row4 x.s4 s,xW x.s5 s]
abbrev tF (x:aG) (k:Int):Array Value:=#[.bool x.ranked,x.s1.v,x.s2.v,x.s3.v,x.s4.v,x.s5.v,.int .i64 k]
structure en (B b:Nat) (x:aG) (s:ai) (k:Int) (w:World):Prop where
 hB:B≤b
 blk:w.heap[b]? =some (.cells (tF x k) tR (0,0))
 rk:x.ranked=s.ranked
 rows:dc w B (tQ x s)
 off:∀r∈tQ x s,r.blk≠some b
theorem en.lt {B b:Nat} {x:aG} {s:ai} {k:Int} {w:World} (h:en B b x s k w):b<w.heap.size:=(Array.getElem?_eq_some_iff.1 h.blk).1
theorem en.on {B b:Nat} {x:aG} {s:ai} {k:Int} {w w':World} (h:en B b x s k w) (hb:Below w.heap.size w w'):en B b x s k w':=
 ⟨h.hB,by rw [hb.block b h.lt];exact h.blk,h.rk,h.rows.on hb,h.off⟩
theorem en.spec {B b:Nat} {x:aG} {s:ai} {k:Int} {w:World} (h:en B b x s k w):aM w x s:=by
 have o1:=Rw.of_own (h.rows.own (row1 x.s1 s) (by simp)) (fun _=>rfl) (Nat.succ_pos _);have o2:=Rw.of_own (h.rows.own (row2 x.s2 s) (by simp)) (fun _=>rfl) (Nat.succ_pos _);have o3:=Rw.of_own (h.rows.own (row3 x.s3 s) (by simp)) (fun _=>rfl) (Nat.succ_pos _);have o4:=Rw.of_own (h.rows.own (row4 x.s4 s) (by simp)) (fun _=>rfl) (Nat.succ_pos _);have o5:=Rw.of_own (h.rows.own (xW x.s5 s) (by simp)) (fun _=>rfl) (Nat.succ_pos _);exact⟨h.rk,o1.2,o1.1,o2.2,o2.1,o3.2,o3.1,o4.2,o4.1,o5.2,o5.1⟩
def gd (B b:Nat) (o:Option ai) (k:Int) (ok:Bool) (w':World):Prop:=match o with
 |some s'=>ok=true∧∃x',en B b x' s' k w'
 |none=>ok=false
theorem FJ {B b:Nat} {x:aG} {s:ai} {k:Int} {w:World} (h:en B b x s k w) (hs:s.merges.length≤1000000) (m:Int×Int):
  ∃a' c' w3,(Builtin.append_ #[33,33] 33 #[x.s1.v,.slice (some (nb w)) 1 1]).run Tryz.prog (w.alloc (.cells (aD m).toArray lG))= .ok (.slice a' (x.s1.n+1) c') w3∧
   (∃u,w3.cell? ((⟨b,0,none⟩:Addr).add 1)=some u)∧w3.frozen? ((⟨b,0,none⟩:Addr).add 1)=false∧
   ∀w4,w4=w3.setCell ((⟨b,0,none⟩:Addr).add 1) (.slice a' (x.s1.n+1) c')→en B b {x with s1:=⟨a',x.s1.n+1,c'⟩} {s with merges:=s.merges++ [m]} k w4∧(∀w0,Below B w0 w→Below B w0 w4):=by
 have hn:x.s1.n=s.merges.length:=h.spec.n1;obtain⟨a',c',w3,hr,hc,hf,hk⟩:=jz (P:=Tryz.prog) (pre:=[]) (post:=[row2 x.s2 s,row3 x.s3 s,row4 x.s4 s,xW x.s5 s]) (r:=row1 x.s1 s) 1 h.blk (by simp) h.rows h.off h.hB 33 lU nE rfl (Nat.succ_pos _) (aD m) rfl (by intro u hu;simp [aD]at hu;rcases hu with rfl |rfl<;>rfl) (by dsimp only;omega) (by dsimp only;omega)
 refine⟨a',c',w3,hr,hc,hf,?_⟩;rintro w4 hw4;obtain⟨k1,k2,k3,k4⟩:=hk w4 hw4;have e:s.merges.flatMap aD++aD m=(s.merges++ [m]).flatMap aD:=by simp
 dsimp only at k2 k3;rw [e]at k2 k3;exact⟨⟨h.hB,k1.trans rfl,h.rk,k2,k3⟩,k4⟩
theorem Gd {B b:Nat} {x:aG} {s:ai} {k:Int} {w:World} (h:en B b x s k w) (hs:s.tokens.length≤1000000) (m:Bs):
  ∃a' c' w3,(Builtin.append_ #[da,da] da #[x.s2.v,.slice (some (nb w)) 1 1]).run Tryz.prog (w.alloc (.cells (be m).toArray bE))= .ok (.slice a' (x.s2.n+1) c') w3∧
   (∃u,w3.cell? ((⟨b,0,none⟩:Addr).add 2)=some u)∧w3.frozen? ((⟨b,0,none⟩:Addr).add 2)=false∧
   ∀w4,w4=w3.setCell ((⟨b,0,none⟩:Addr).add 2) (.slice a' (x.s2.n+1) c')→en B b {x with s2:=⟨a',x.s2.n+1,c'⟩} {s with tokens:=s.tokens++ [m]} k w4∧(∀w0,Below B w0 w→Below B w0 w4):=by
 have hn:x.s2.n=s.tokens.length:=h.spec.n2;obtain⟨a',c',w3,hr,hc,hf,hk⟩:=jz (P:=Tryz.prog) (pre:=[row1 x.s1 s]) (post:=[row3 x.s3 s,row4 x.s4 s,xW x.s5 s]) (r:=row2 x.s2 s) 2 h.blk (by simp) h.rows h.off h.hB da fp fO rfl (Nat.succ_pos _) (be m) rfl (by intro u hu;simp [be]at hu;rcases hu with rfl;rfl) (by dsimp only;omega) (by dsimp only;omega);refine⟨a',c',w3,hr,hc,hf,?_⟩;rintro w4 hw4;obtain⟨k1,k2,k3,k4⟩:=hk w4 hw4;have e:s.tokens.flatMap be++be m=(s.tokens++ [m]).flatMap be:=by simp
 dsimp only at k2 k3;rw [e]at k2 k3;exact⟨⟨h.hB,k1.trans rfl,h.rk,k2,k3⟩,k4⟩
theorem Ga {B b:Nat} {x:aG} {s:ai} {k:Int} {w:World} (h:en B b x s k w) (hs:s.specials.length≤1000000) (m:Int×Bs):
  ∃a' c' w3,(Builtin.append_ #[25,25] 25 #[x.s3.v,.slice (some (nb w)) 1 1]).run Tryz.prog (w.alloc (.cells (av m).toArray kU))= .ok (.slice a' (x.s3.n+1) c') w3∧
   (∃u,w3.cell? ((⟨b,0,none⟩:Addr).add 3)=some u)∧w3.frozen? ((⟨b,0,none⟩:Addr).add 3)=false∧
   ∀w4,w4=w3.setCell ((⟨b,0,none⟩:Addr).add 3) (.slice a' (x.s3.n+1) c')→en B b {x with s3:=⟨a',x.s3.n+1,c'⟩} {s with specials:=s.specials++ [m]} k w4∧(∀w0,Below B w0 w→Below B w0 w4):=by
 have hn:x.s3.n=s.specials.length:=h.spec.n3;obtain⟨a',c',w3,hr,hc,hf,hk⟩:=jz (P:=Tryz.prog) (pre:=[row1 x.s1 s,row2 x.s2 s]) (post:=[row4 x.s4 s,xW x.s5 s]) (r:=row3 x.s3 s) 3 h.blk (by simp) h.rows h.off h.hB 25 jZ np rfl (Nat.succ_pos _) (av m) rfl (by intro u hu;simp [av]at hu;rcases hu with rfl |rfl<;>rfl) (by dsimp only;omega) (by dsimp only;omega)
 refine⟨a',c',w3,hr,hc,hf,?_⟩;rintro w4 hw4;obtain⟨k1,k2,k3,k4⟩:=hk w4 hw4;have e:s.specials.flatMap av++av m=(s.specials++ [m]).flatMap av:=by simp
 dsimp only at k2 k3;rw [e]at k2 k3;exact⟨⟨h.hB,k1.trans rfl,h.rk,k2,k3⟩,k4⟩
theorem Fp {B b:Nat} {x:aG} {s:ai} {k:Int} {w:World} (h:en B b x s k w) (hs:s.classes.length≤1000000) (m:Int×Int×Int):
  ∃a' c' w3,(Builtin.append_ #[23,23] 23 #[x.s4.v,.slice (some (nb w)) 1 1]).run Tryz.prog (w.alloc (.cells (aZ m).toArray wK))= .ok (.slice a' (x.s4.n+1) c') w3∧
   (∃u,w3.cell? ((⟨b,0,none⟩:Addr).add 4)=some u)∧w3.frozen? ((⟨b,0,none⟩:Addr).add 4)=false∧
   ∀w4,w4=w3.setCell ((⟨b,0,none⟩:Addr).add 4) (.slice a' (x.s4.n+1) c')→en B b {x with s4:=⟨a',x.s4.n+1,c'⟩} {s with classes:=s.classes++ [m]} k w4∧(∀w0,Below B w0 w→Below B w0 w4):=by
 have hn:x.s4.n=s.classes.length:=h.spec.n4;obtain⟨a',c',w3,hr,hc,hf,hk⟩:=jz (P:=Tryz.prog) (pre:=[row1 x.s1 s,row2 x.s2 s,row3 x.s3 s]) (post:=[xW x.s5 s]) (r:=row4 x.s4 s) 4 h.blk (by simp) h.rows h.off h.hB 23 lL rf rfl (Nat.succ_pos _) (aZ m) rfl (by intro u hu;simp [aZ]at hu;rcases hu with rfl |rfl |rfl<;>rfl) (by dsimp only;omega) (by dsimp only;omega)
 refine⟨a',c',w3,hr,hc,hf,?_⟩;rintro w4 hw4;obtain⟨k1,k2,k3,k4⟩:=hk w4 hw4;have e:s.classes.flatMap aZ++aZ m=(s.classes++ [m]).flatMap aZ:=by simp
 dsimp only at k2 k3;rw [e]at k2 k3;exact⟨⟨h.hB,k1.trans rfl,h.rk,k2,k3⟩,k4⟩
theorem Ff {B b:Nat} {x:aG} {s:ai} {k:Int} {w:World} (h:en B b x s k w) (hs:s.joins.length≤1000000) (m:Int×Int):
  ∃a' c' w3,(Builtin.append_ #[24,24] 24 #[x.s5.v,.slice (some (nb w)) 1 1]).run Tryz.prog (w.alloc (.cells (aD m).toArray AN))= .ok (.slice a' (x.s5.n+1) c') w3∧
   (∃u,w3.cell? ((⟨b,0,none⟩:Addr).add 5)=some u)∧w3.frozen? ((⟨b,0,none⟩:Addr).add 5)=false∧
   ∀w4,w4=w3.setCell ((⟨b,0,none⟩:Addr).add 5) (.slice a' (x.s5.n+1) c')→en B b {x with s5:=⟨a',x.s5.n+1,c'⟩} {s with joins:=s.joins++ [m]} k w4∧(∀w0,Below B w0 w→Below B w0 w4):=by
 have hn:x.s5.n=s.joins.length:=h.spec.n5;obtain⟨a',c',w3,hr,hc,hf,hk⟩:=jz (P:=Tryz.prog) (pre:=[row1 x.s1 s,row2 x.s2 s,row3 x.s3 s,row4 x.s4 s]) (post:=[]) (r:=xW x.s5 s) 5 h.blk (by simp) h.rows h.off h.hB 24 lF qU rfl (Nat.succ_pos _) (aD m) rfl (by intro u hu;simp [aD]at hu;rcases hu with rfl |rfl<;>rfl) (by dsimp only;omega) (by dsimp only;omega)
 refine⟨a',c',w3,hr,hc,hf,?_⟩;rintro w4 hw4;obtain⟨k1,k2,k3,k4⟩:=hk w4 hw4;have e:s.joins.flatMap aD++aD m=(s.joins++ [m]).flatMap aD:=by simp
 dsimp only at k2 k3;rw [e]at k2 k3;exact⟨⟨h.hB,k1.trans rfl,h.rk,k2,k3⟩,k4⟩
theorem sg (B b:Nat) (x:aG) (s:ai) (k:Int) (a:Option Addr) (c:Nat) (ws:List Bs) (w:World) (hR:en B b x s k w) (hs:dO s) (h:bv w a ws) (hl:∀x∈ws,x.length≤1000000) (hn:ws.length≤1000000) (ht:tj w) (he:je w):
  CP 234 #[.pointer (some ⟨b,0,none⟩),.slice a ws.length c] w fun e w'=>∃ok,e= .returned (.bool ok)∧gd B b ((fj ws).map fun m=>{s with merges:=s.merges++ [m]}) k ok w'∧Below B w w':=by
 refine aU (xa (some ⟨b,0,none⟩) a ws.length c w) ?_;have hBw:B≤w.heap.size:=Nat.le_trans hR.hB (Nat.le_of_lt hR.lt);refine(jm a c ws 2 w h hl hn ht he).mono ?_;rintro e w1 ⟨hp,hB1⟩;rw [yu]at hp;have hBB:Below B w w1:=hB1.mono hBw;cases hm:fj ws with
 |none=>
  rw [hm]at hp;subst hp;refine⟨_,_,_,_,rfl,?_⟩;intro J hJ;exact aa.no rfl (hJ w1 ⟨false,rfl,rfl,hBB⟩)
 |some m=>
  rw [hm]at hp;obtain⟨ra,rc,rfl,hrow⟩:=hp;refine⟨_,_,_,_,rfl,?_⟩;intro J hJ;refine aa.yes rfl ?_;rintro w3 rfl;have hR3:en B b x s k w1.drew:=(hR.on hB1).on ((Below.refl _ _).drew);have hns:([m.1,m.2]:List Int).length=2:=rfl;refine ae.mk ⟨b,0,none⟩ rfl ⟨_,_,_,(aE (j:=1) hR3.blk).trans rfl,?_⟩;obtain⟨p0,hp0,hlt0,hc0⟩:=hrow 0 _ rfl;obtain⟨p1,hp1,hlt1,hc1⟩:=hrow 1 _ rfl;refine ae.mk p0 hp0 ⟨by simp,by simp,m.1,hc0,?_⟩;refine ae.mk p1 hp1 ⟨by simp,by simp,m.2,hc1,?_⟩;rintro w4 rfl;have hR4:=hR3.on (ag w1.drew (.cells (aD m).toArray lG));refine⟨⟨(aE (j:=1) hR4.blk).trans rfl,trivial⟩,?_⟩;obtain⟨a',c',w5,hr,hcc,hf,hk⟩:=FJ hR3 hs.1 m;refine⟨a',_,c',w5,hr,?_⟩;refine ae.mk ⟨b,0,none⟩ rfl ⟨rfl,hcc,hf,?_⟩;intro w6 hw6;obtain⟨k1,k2⟩:=hk w6 hw6;exact hJ w6 ⟨true,rfl,⟨rfl,_,k1⟩,k2 w hBB.drew⟩
theorem rY (B b:Nat) (x:aG) (s:ai) (k:Int) (a:Option Addr) (c:Nat) (ws:List Bs) (w:World) (hR:en B b x s k w) (hs:dO s) (h:bv w a ws) (hl:∀x∈ws,x.length≤1000000) (hn:ws.length≤1000000) (ht:tj w) (he:je w):
  CP 237 #[.pointer (some ⟨b,0,none⟩),.slice a ws.length c] w fun e w'=>∃ok,e= .returned (.bool ok)∧gd B b ((hO ws).map fun m=>{s with classes:=s.classes++ [m]}) k ok w'∧Below B w w':=by
 refine aU (vA (some ⟨b,0,none⟩) a ws.length c w) ?_;have hBw:B≤w.heap.size:=Nat.le_trans hR.hB (Nat.le_of_lt hR.lt);refine(jm a c ws 3 w h hl hn ht he).mono ?_;rintro e w1 ⟨hp,hB1⟩;rw [EQ]at hp;have hBB:Below B w w1:=hB1.mono hBw;cases hm:hO ws with
 |none=>
  rw [hm]at hp;subst hp;refine⟨_,_,_,_,rfl,?_⟩;intro J hJ;exact aa.no rfl (hJ w1 ⟨false,rfl,rfl,hBB⟩)
 |some m=>
  rw [hm]at hp;obtain⟨ra,rc,rfl,hrow⟩:=hp;refine⟨_,_,_,_,rfl,?_⟩;intro J hJ;refine aa.yes rfl ?_;rintro w3 rfl;have hR3:en B b x s k w1.drew:=(hR.on hB1).on ((Below.refl _ _).drew);have hns:([m.1,m.2.1,m.2.2]:List Int).length=3:=rfl;refine ae.mk ⟨b,0,none⟩ rfl ⟨_,_,_,(aE (j:=4) hR3.blk).trans rfl,?_⟩;obtain⟨p0,hp0,hlt0,hc0⟩:=hrow 0 _ rfl;obtain⟨p1,hp1,hlt1,hc1⟩:=hrow 1 _ rfl;obtain⟨p2,hp2,hlt2,hc2⟩:=hrow 2 _ rfl;refine ae.mk p0 hp0 ⟨by simp,by simp,m.1,hc0,?_⟩;refine ae.mk p1 hp1 ⟨by simp,by simp,m.2.1,hc1,?_⟩;refine ae.mk p2 hp2 ⟨by simp,by simp,m.2.2,hc2,?_⟩;rintro w4 rfl;have hR4:=hR3.on (ag w1.drew (.cells (aZ m).toArray wK));refine⟨⟨(aE (j:=4) hR4.blk).trans rfl,trivial⟩,?_⟩;obtain⟨a',c',w5,hr,hcc,hf,hk⟩:=Fp hR3 hs.2.2.2.1 m;refine⟨a',_,c',w5,hr,?_⟩;refine ae.mk ⟨b,0,none⟩ rfl ⟨rfl,hcc,hf,?_⟩;intro w6 hw6;obtain⟨k1,k2⟩:=hk w6 hw6;exact hJ w6 ⟨true,rfl,⟨rfl,_,k1⟩,k2 w hBB.drew⟩
theorem uE (B b:Nat) (x:aG) (s:ai) (k:Int) (a:Option Addr) (c:Nat) (ws:List Bs) (w:World) (hR:en B b x s k w) (hs:dO s) (h:bv w a ws) (hl:∀x∈ws,x.length≤1000000) (hn:ws.length≤1000000) (ht:tj w) (he:je w):
  CP 238 #[.pointer (some ⟨b,0,none⟩),.slice a ws.length c] w fun e w'=>∃ok,e= .returned (.bool ok)∧gd B b ((fj ws).map fun m=>{s with joins:=s.joins++ [m]}) k ok w'∧Below B w w':=by
 refine aU (u_ (some ⟨b,0,none⟩) a ws.length c w) ?_;have hBw:B≤w.heap.size:=Nat.le_trans hR.hB (Nat.le_of_lt hR.lt);refine(jm a c ws 2 w h hl hn ht he).mono ?_;rintro e w1 ⟨hp,hB1⟩;rw [yu]at hp;have hBB:Below B w w1:=hB1.mono hBw;cases hm:fj ws with
 |none=>
  rw [hm]at hp;subst hp;refine⟨_,_,_,_,rfl,?_⟩;intro J hJ;exact aa.no rfl (hJ w1 ⟨false,rfl,rfl,hBB⟩)
 |some m=>
  rw [hm]at hp;obtain⟨ra,rc,rfl,hrow⟩:=hp;refine⟨_,_,_,_,rfl,?_⟩;intro J hJ;refine aa.yes rfl ?_;rintro w3 rfl;have hR3:en B b x s k w1.drew:=(hR.on hB1).on ((Below.refl _ _).drew);have hns:([m.1,m.2]:List Int).length=2:=rfl;refine ae.mk ⟨b,0,none⟩ rfl ⟨_,_,_,(aE (j:=5) hR3.blk).trans rfl,?_⟩;obtain⟨p0,hp0,hlt0,hc0⟩:=hrow 0 _ rfl;obtain⟨p1,hp1,hlt1,hc1⟩:=hrow 1 _ rfl;refine ae.mk p0 hp0 ⟨by simp,by simp,m.1,hc0,?_⟩;refine ae.mk p1 hp1 ⟨by simp,by simp,m.2,hc1,?_⟩;rintro w4 rfl;have hR4:=hR3.on (ag w1.drew (.cells (aD m).toArray AN));refine⟨⟨(aE (j:=5) hR4.blk).trans rfl,trivial⟩,?_⟩;obtain⟨a',c',w5,hr,hcc,hf,hk⟩:=Ff hR3 hs.2.2.2.2 m;refine⟨a',_,c',w5,hr,?_⟩;refine ae.mk ⟨b,0,none⟩ rfl ⟨rfl,hcc,hf,?_⟩;intro w6 hw6;obtain⟨k1,k2⟩:=hk w6 hw6;exact hJ w6 ⟨true,rfl,⟨rfl,_,k1⟩,k2 w hBB.drew⟩
theorem so (B b:Nat) (x:aG) (s:ai) (k:Int) (a:Option Addr) (c:Nat) (ws:List Bs) (w:World) (hR:en B b x s k w) (hs:dO s) (h:bv w a ws) (hl:∀x∈ws,x.length≤1000000) (hn:ws.length≤1000000):
  CP 235 #[.pointer (some ⟨b,0,none⟩),.slice a ws.length c] w fun e w'=>∃ok,e= .returned (.bool ok)∧gd B b ((sb ws).map fun m=>{s with tokens:=s.tokens++ [m]}) k ok w'∧Below B w w':=by
 refine aU (xx (some ⟨b,0,none⟩) a ws.length c w) ?_;have hBw:B≤w.heap.size:=Nat.le_trans hR.hB (Nat.le_of_lt hR.lt);refine aa.mk ?_ ?_
 ·intro hc;have hc:(ws.length:Int)≠1:=by simpa using hc
  refine⟨false,rfl,?_,Below.refl _ _⟩
  match ws,hc with
  | [],_=>rfl
  |_::_::_,_=>rfl
  | [_],hc=>simp at hc
 ·intro hc;have hc:(ws.length:Int)=1:=by simpa using hc
  match ws,hc,h,hl with
  | [t],_,h,hl=>
   obtain⟨p,hp,_,hcp⟩:=h 0 _ rfl;refine ae.mk p hp ⟨by simp,by simp,str t,hcp,?_⟩;have htl:=hl t (by simp);refine(qN t w (by omega)).mono ?_;rintro e w1 ⟨rfl,hB1⟩;have hBB:Below B w w1:=hB1.mono hBw;have hR1:=hR.on hB1;have fin:∀(o:Option Bs) (u:Bs) (q:Bool),(∀m,o=some m→u=m∧q=true)→(o=none→q=false)→
    ae (some ⟨b,0,none⟩) (fun pa_1=>
     ∃lA_2:Option Addr,∃lN_3:Nat,∃lC_4:Nat,w1.cell? ((pa_1.add 0).add 2)=some (Value.slice lA_2 lN_3 lC_4)∧
     ∀w2:World,w2=w1.alloc (.cells #[Value.string (str u)] bE)→
     ∃lA_5:Option Addr,∃lN_6:Nat,∃lC_7:Nat,∃w3:World,(Builtin.append_ #[da,da] da #[Value.slice lA_2 lN_3 lC_4,Value.slice (some (nb w1)) 1 1]).run Tryz.prog w2= .ok (Value.slice lA_5 lN_6 lC_7) w3∧
     ae (some ⟨b,0,none⟩) (fun pa_8=>
     (Value.slice lA_5 lN_6 lC_7).oneCell'=true∧(∃u,w3.cell? ((pa_8.add 0).add 2)=some u)∧w3.frozen? ((pa_8.add 0).add 2)=false∧
     ∀w4:World,w4=(w3.setCell ((pa_8.add 0).add 2) (Value.slice lA_5 lN_6 lC_7))→
     ∃ok,Ending.returned (Value.bool q)= .returned (.bool ok)∧gd B b (o.map fun m=>{s with tokens:=s.tokens++ [m]}) k ok w4∧Below B w w4)):=by
    intro o u q h1 h2;refine ae.mk ⟨b,0,none⟩ rfl ⟨_,_,_,(aE (j:=2) hR1.blk).trans rfl,?_⟩;rintro w2 rfl;obtain⟨a',c',w5,hr,hcc,hf,hk⟩:=Gd hR1 hs.2.1 u;refine⟨a',_,c',w5,hr,?_⟩;refine ae.mk ⟨b,0,none⟩ rfl ⟨rfl,hcc,hf,?_⟩;intro w6 hw6;obtain⟨k1,k2⟩:=hk w6 hw6;refine⟨q,rfl,?_,k2 w hBB⟩;cases o with
    |none=>exact h2 rfl
    |some m=>
     obtain⟨rfl,hq⟩:=h1 m rfl;exact⟨hq,_,k1⟩
   show ∃r0:ByteArray,∃r1:Bool,_;cases hu:cB t with
   |none=>exact⟨str [],false,rfl,fin _ [] false (by simp [sb,hu]) (fun _=>rfl)⟩
   |some m=>exact⟨str m,true,rfl,fin _ m true (by simp [sb,hu]) (by simp [sb,hu])⟩
theorem pg (B b:Nat) (x:aG) (s:ai) (k:Int) (a:Option Addr) (c:Nat) (ws:List Bs) (w:World) (hR:en B b x s k w) (hs:dO s) (h:bv w a ws) (hl:∀x∈ws,x.length≤1000000) (hn:ws.length≤1000000) (ht:tj w) (he:je w):
  CP 236 #[.pointer (some ⟨b,0,none⟩),.slice a ws.length c] w fun e w'=>∃ok,e= .returned (.bool ok)∧gd B b ((fW ws).map fun m=>{s with specials:=s.specials++ [m]}) k ok w'∧Below B w w':=by
 refine aU (wT (some ⟨b,0,none⟩) a ws.length c w) ?_;have hBw:B≤w.heap.size:=Nat.le_trans hR.hB (Nat.le_of_lt hR.lt);refine aa.mk ?_ ?_
 ·intro hc;have hc:(ws.length:Int)≠2:=by simpa using hc
  refine⟨false,rfl,?_,Below.refl _ _⟩
  match ws,hc with
  | [],_=>rfl
  | [_],_=>rfl
  |_::_::_::_,_=>rfl
  | [_,_],hc=>simp at hc
 ·intro hc;have hc:(ws.length:Int)=2:=by simpa using hc
  match ws,hc,h,hl with
  | [t,t2],_,h,hl=>
   obtain⟨p,hp,_,hcp⟩:=h 0 _ rfl;refine ae.mk p hp ⟨by simp,by simp,str t,hcp,?_⟩;have htl:=hl t (by simp);refine(qv t cH w (by omega) ht he).mono ?_;rintro e w1 ⟨rfl,hB1⟩;obtain⟨p2,hp2,_,hcp2⟩:=(h.on hB1) 1 _ rfl;have hw:dz t=(dF t cH).map fun u=>(u:Int):=rfl;have tail:∀(n:Int) (q1:Bool),(dz t=some n∧q1=true)∨(dz t=none∧q1=false)→
     ae a (fun pa_1=>
      (0:Int)≤1∧1< (([t,t2].length:Nat):Int)∧
      ∃s_2:ByteArray,w1.cell? (pa_1.add ((1:Int).toNat*1))=some (Value.string s_2)∧
      CP 269 #[Value.string s_2] w1 (fun e2 w2=>
      ∃r0_3:ByteArray,∃r1_4:Bool,e2= .returned (Value.tuple #[Value.string r0_3,Value.bool r1_4])∧
      ae (some ⟨b,0,none⟩) (fun pa_5=>
      ∃lA_6:Option Addr,∃lN_7:Nat,∃lC_8:Nat,w2.cell? ((pa_5.add 0).add 3)=some (Value.slice lA_6 lN_7 lC_8)∧
      ∀w3:World,w3=w2.alloc (.cells #[Value.int .i64 n,Value.string r0_3] kU)→
      ∃lA_9:Option Addr,∃lN_10:Nat,∃lC_11:Nat,∃w4:World,(Builtin.append_ #[25,25] 25 #[Value.slice lA_6 lN_7 lC_8,Value.slice (some (nb w2)) 1 1]).run Tryz.prog w3= .ok (Value.slice lA_9 lN_10 lC_11) w4∧
      ae (some ⟨b,0,none⟩) (fun pa_12=>
      (Value.slice lA_9 lN_10 lC_11).oneCell'=true∧(∃u,w4.cell? ((pa_12.add 0).add 3)=some u)∧w4.frozen? ((pa_12.add 0).add 3)=false∧
      ∀w5:World,w5=(w4.setCell ((pa_12.add 0).add 3) (Value.slice lA_9 lN_10 lC_11))→
      aa q1
       (∃ok,Ending.returned (Value.bool r1_4)= .returned (.bool ok)∧gd B b ((fW [t,t2]).map fun m=>{s with specials:=s.specials++ [m]}) k ok w5∧Below B w w5)
       (∃ok,Ending.returned (Value.bool false)= .returned (.bool ok)∧gd B b ((fW [t,t2]).map fun m=>{s with specials:=s.specials++ [m]}) k ok w5∧Below B w w5))))):=by
    intro n q1 hq;refine ae.mk p2 hp2 ⟨by simp,by simp,str t2,hcp2,?_⟩;have htl2:=hl t2 (by simp);refine(qN t2 w1 (by omega)).mono ?_;rintro e w2 ⟨rfl,hB2⟩;have hB12:=ab hB1 hB2;have hBB:Below B w w2:=hB12.mono hBw;have hR2:=hR.on hB12;have fin:∀(u:Bs) (q:Bool),(cB t2=some u∧q=true)∨(cB t2=none∧q=false)→
      ae (some ⟨b,0,none⟩) (fun pa_5=>
      ∃lA_6:Option Addr,∃lN_7:Nat,∃lC_8:Nat,w2.cell? ((pa_5.add 0).add 3)=some (Value.slice lA_6 lN_7 lC_8)∧
      ∀w3:World,w3=w2.alloc (.cells #[Value.int .i64 n,Value.string (str u)] kU)→
      ∃lA_9:Option Addr,∃lN_10:Nat,∃lC_11:Nat,∃w4:World,(Builtin.append_ #[25,25] 25 #[Value.slice lA_6 lN_7 lC_8,Value.slice (some (nb w2)) 1 1]).run Tryz.prog w3= .ok (Value.slice lA_9 lN_10 lC_11) w4∧
      ae (some ⟨b,0,none⟩) (fun pa_12=>
      (Value.slice lA_9 lN_10 lC_11).oneCell'=true∧(∃u,w4.cell? ((pa_12.add 0).add 3)=some u)∧w4.frozen? ((pa_12.add 0).add 3)=false∧
      ∀w5:World,w5=(w4.setCell ((pa_12.add 0).add 3) (Value.slice lA_9 lN_10 lC_11))→
      aa q1
       (∃ok,Ending.returned (Value.bool q)= .returned (.bool ok)∧gd B b ((fW [t,t2]).map fun m=>{s with specials:=s.specials++ [m]}) k ok w5∧Below B w w5)
       (∃ok,Ending.returned (Value.bool false)= .returned (.bool ok)∧gd B b ((fW [t,t2]).map fun m=>{s with specials:=s.specials++ [m]}) k ok w5∧Below B w w5))):=by
     intro u q hqq;refine ae.mk ⟨b,0,none⟩ rfl ⟨_,_,_,(aE (j:=3) hR2.blk).trans rfl,?_⟩;rintro w3 rfl;obtain⟨a',c',w5,hr,hcc,hf,hk⟩:=Ga hR2 hs.2.2.1 (n,u);refine⟨a',_,c',w5,hr,?_⟩;refine ae.mk ⟨b,0,none⟩ rfl ⟨rfl,hcc,hf,?_⟩;intro w6 hw6;obtain⟨k1,k2⟩:=hk w6 hw6;have hk2:=k2 w hBB;rcases hq with⟨h1,rfl⟩ |⟨h1,rfl⟩
     ·refine aa.yes rfl ⟨q,rfl,?_,hk2⟩;rcases hqq with⟨h2,rfl⟩ |⟨h2,rfl⟩
      ·simp only [fW,h1,h2];exact⟨rfl,_,k1⟩
      ·simp only [fW,h1,h2];rfl
     ·refine aa.no rfl ⟨false,rfl,?_,hk2⟩;simp only [fW,h1];rfl
    cases hu:cB t2 with
    |none=>exact⟨str [],false,rfl,fin [] false (.inr ⟨hu,rfl⟩)⟩
    |some m=>exact⟨str m,true,rfl,fin m true (.inl ⟨hu,rfl⟩)⟩
   cases hp:dF t cH with
   |none=>exact⟨0,false,rfl,tail 0 false (.inr ⟨by rw [hw,hp];rfl,rfl⟩)⟩
   |some u=>exact⟨(u:Int),true,rfl,tail u true (.inl ⟨by rw [hw,hp];rfl,rfl⟩)⟩
theorem oZ {w:World} {a p:Addr} {u:Value} (h:p.block≠a.block):(w.setCell a u).cell? p=w.cell? p:=by
 unfold World.cell?;rw [ay h]
noncomputable def sW (l:List Bs):Option Bool:=if l= [iV]then some true else if l= [fP]then some false else none
theorem tT (B b:Nat) (x:aG) (s:ai) (k:Int) (a:Option Addr) (c:Nat) (ws:List Bs) (w:World) (hR:en B b x s k w) (h:bv w a ws) (hoff:∀p,a=some p→p.block≠b) (hn:ws.length≤1000000):
  CP 233 #[.pointer (some ⟨b,0,none⟩),.slice a ws.length c] w fun e w'=>∃ok,e= .returned (.bool ok)∧gd B b ((sW ws).map fun q=>{s with ranked:=q}) k ok w'∧Below B w w':=by
 refine aU (xI (some ⟨b,0,none⟩) a ws.length c w) ?_;have put:∀q:Bool,∀w1,w1=w.setCell (((⟨b,0,none⟩:Addr).add 0).add 0) (.bool q)→en B b {x with ranked:=q} {s with ranked:=q} k w1∧Below B w w1:=by
  intro q w1 hw1;rw [an]at hw1;subst hw1;refine⟨⟨hR.hB,(bo (j:=0) hR.blk _).trans rfl,rfl,hR.rows.setCell _ _ (by rw [aq];exact hR.off),hR.off⟩,bg (Below.refl _ _) hR.hB _⟩
 have c0:w.cell? (((⟨b,0,none⟩:Addr).add 0).add 0)=some (.bool x.ranked):=by rw [an];exact(aE (j:=0) hR.blk).trans rfl
 have f0:w.frozen? (((⟨b,0,none⟩:Addr).add 0).add 0)=false:=by rw [an];exact a_ hR.blk
 refine aa.mk ?_ ?_
 ·intro hc;have hc1:(ws.length:Int)=1:=by simpa using hc
  match ws,hc1,hc,h with
  | [t],_,hc,h=>
   obtain⟨p,hp,_,hcp⟩:=h 0 _ rfl;have hpb:=hoff p hp;refine ae.mk p hp ⟨by simp,by simp,str t,hcp,?_⟩;refine ae.mk ⟨b,0,none⟩ rfl ⟨rfl,⟨_,c0⟩,f0,?_⟩;have eR:((str t).toList==(⟨#[114,97,110,107,115]⟩:ByteArray).toList)=decide (t=iV):=by rw [show(⟨#[114,97,110,107,115]⟩:ByteArray)=str iV from rfl,bP]
   have eM:((str t).toList==(⟨#[109,101,114,103,101,115]⟩:ByteArray).toList)=decide (t=fP):=by rw [show(⟨#[109,101,114,103,101,115]⟩:ByteArray)=str fP from rfl,bP]
   rw [eR];intro w1 hw1;obtain⟨hR1,hB1⟩:=put _ w1 hw1;have hc1:w1.cell? (p.add 0)=some (.string (str t)):=by
    rw [hw1,oZ (by rw [aq,aq,aq];exact hpb)];exact hcp
   refine aa.yes hc (ae.mk p hp ⟨by simp,by simp,str t,hc1,?_⟩);rw [eR];refine aa.mk ?_ ?_
   ·intro ht;have ht:=of_decide_eq_true ht;subst ht;refine⟨true,rfl,?_,hB1⟩;unfold sW;rw [if_pos rfl];exact⟨rfl,_,hR1⟩
   ·intro ht;have ht':=of_decide_eq_false ht;refine ae.mk p hp ⟨by simp,by simp,str t,hc1,?_⟩;rw [eM];refine⟨_,rfl,?_,hB1⟩;unfold sW;rw [if_neg (by simpa using ht')];by_cases hm:t=fP
    ·rw [if_pos (by simpa using hm)];rw [ht]at hR1;exact⟨by simpa using hm,_,hR1⟩
    ·rw [if_neg (by simpa using hm)];exact decide_eq_false hm
 ·intro hc;have hc1:(ws.length:Int)≠1:=by simpa using hc
  refine ae.mk ⟨b,0,none⟩ rfl ⟨rfl,⟨_,c0⟩,f0,?_⟩;intro w2 hw2;obtain⟨hR1,hB1⟩:=put _ w2 hw2;refine aa.no hc ⟨false,rfl,?_,hB1⟩;unfold sW;rw [if_neg (by rintro rfl;simp at hc1),if_neg (by rintro rfl;simp at hc1)];rfl
def vo (B b:Nat) (o:Option (ai×Nat)) (k j:Int) (ok:Bool) (w':World):Prop:=match o with
 |some (s',j')=>ok=true∧j=j'∧∃x',en B b x' s' k w'
 |none=>ok=false
theorem eW {B b:Nat} {o:Option ai} {k:Int} {n:Nat} {ok:Bool} {w':World} (h:gd B b o k ok w'):vo B b (o.map fun s=>(s,n)) k n ok w':=by
 cases o with
 |none=>exact h
 |some s=>exact⟨h.1,rfl,h.2⟩
theorem yZ (s:ai) (first:Bs) (l:List Bs):
  kT s (first::l)=if first=dE then((sW l).map fun q=>{s with ranked:=q}).map fun s=>(s,0)else if first=wMerge then((fj l).map fun m=>{s with merges:=s.merges++ [m]}).map fun s=>(s,1)
   else if first=wToken then((sb l).map fun m=>{s with tokens:=s.tokens++ [m]}).map fun s=>(s,1)else if first=wSpecial then((fW l).map fun m=>{s with specials:=s.specials++ [m]}).map fun s=>(s,2)
   else if first=wClass then((hO l).map fun m=>{s with classes:=s.classes++ [m]}).map fun s=>(s,3)else if first=wJoin then((fj l).map fun m=>{s with joins:=s.joins++ [m]}).map fun s=>(s,4)else none:=by
 unfold kT sW;simp only [Option.map_map];split
 ·split
  ·rfl
  ·split<;>rfl
 ·rfl
theorem t_ (B b:Nat) (x:aG) (s:ai) (k:Int) (first:Bs) (a:Option Addr) (c:Nat) (ws:List Bs) (w:World) (hR:en B b x s k w) (hs:dO s) (h:bv w a ws) (hoff:∀p,a=some p→p.block≠b) (hl:∀x∈ws,x.length≤1000000) (hn:ws.length≤1000000) (ht:tj w) (he:je w):
  CP 187 #[.pointer (some ⟨b,0,none⟩),.string (str first),.slice a ws.length c] w fun e w'=>∃(j:Int) (ok:Bool),e= .returned (.tuple #[.int .i64 j,.bool ok])∧vo B b (kT s (first::ws)) k j ok w'∧Below B w w':=by
 refine aU (wC (some ⟨b,0,none⟩) (str first) a ws.length c w) ?_;rw [yZ];have e1:((str first).toList==(⟨#[118,111,99,97,98]⟩:ByteArray).toList)=decide (first=dE):=by rw [show(⟨#[118,111,99,97,98]⟩:ByteArray)=str dE from rfl,bP]
 have e2:((str first).toList==(⟨#[109,101,114,103,101]⟩:ByteArray).toList)=decide (first=wMerge):=by rw [show(⟨#[109,101,114,103,101]⟩:ByteArray)=str wMerge from rfl,bP]
 have e3:((str first).toList==(⟨#[116,111,107,101,110]⟩:ByteArray).toList)=decide (first=wToken):=by rw [show(⟨#[116,111,107,101,110]⟩:ByteArray)=str wToken from rfl,bP]
 have e4:((str first).toList==(⟨#[115,112,101,99,105,97,108]⟩:ByteArray).toList)=decide (first=wSpecial):=by rw [show(⟨#[115,112,101,99,105,97,108]⟩:ByteArray)=str wSpecial from rfl,bP]
 have e5:((str first).toList==(⟨#[99,108,97,115,115]⟩:ByteArray).toList)=decide (first=wClass):=by rw [show(⟨#[99,108,97,115,115]⟩:ByteArray)=str wClass from rfl,bP]
 have e6:((str first).toList==(⟨#[106,111,105,110]⟩:ByteArray).toList)=decide (first=wJoin):=by rw [show(⟨#[106,111,105,110]⟩:ByteArray)=str wJoin from rfl,bP]
 refine aa.mk ?_ ?_
 ·intro hc;rw [e1]at hc;rw [if_pos (of_decide_eq_true hc)];refine(tT B b x s k a c ws w hR h hoff hn).mono ?_;rintro e w1 ⟨ok,rfl,hp,hB⟩;exact⟨ok,rfl,_,ok,rfl,eW (n:=0) hp,hB⟩
 intro hc;rw [e1]at hc;rw [if_neg (of_decide_eq_false hc)];refine aa.mk ?_ ?_
 ·intro hc;rw [e2]at hc;rw [if_pos (of_decide_eq_true hc)];refine(sg B b x s k a c ws w hR hs h hl hn ht he).mono ?_;rintro e w1 ⟨ok,rfl,hp,hB⟩;exact⟨ok,rfl,_,ok,rfl,eW (n:=1) hp,hB⟩
 intro hc;rw [e2]at hc;rw [if_neg (of_decide_eq_false hc)];refine aa.mk ?_ ?_
 ·intro hc;rw [e3]at hc;rw [if_pos (of_decide_eq_true hc)];refine(so B b x s k a c ws w hR hs h hl hn).mono ?_;rintro e w1 ⟨ok,rfl,hp,hB⟩;exact⟨ok,rfl,_,ok,rfl,eW (n:=1) hp,hB⟩
 intro hc;rw [e3]at hc;rw [if_neg (of_decide_eq_false hc)];refine aa.mk ?_ ?_
 ·intro hc;rw [e4]at hc;rw [if_pos (of_decide_eq_true hc)];refine(pg B b x s k a c ws w hR hs h hl hn ht he).mono ?_;rintro e w1 ⟨ok,rfl,hp,hB⟩;exact⟨ok,rfl,_,ok,rfl,eW (n:=2) hp,hB⟩
 intro hc;rw [e4]at hc;rw [if_neg (of_decide_eq_false hc)];refine aa.mk ?_ ?_
 ·intro hc;rw [e5]at hc;rw [if_pos (of_decide_eq_true hc)];refine(rY B b x s k a c ws w hR hs h hl hn ht he).mono ?_;rintro e w1 ⟨ok,rfl,hp,hB⟩;exact⟨ok,rfl,_,ok,rfl,eW (n:=3) hp,hB⟩
 intro hc;rw [e5]at hc;rw [if_neg (of_decide_eq_false hc)];refine aa.mk ?_ ?_
 ·intro hc;rw [e6]at hc;rw [if_pos (of_decide_eq_true hc)];refine(uE B b x s k a c ws w hR hs h hl hn ht he).mono ?_;rintro e w1 ⟨ok,rfl,hp,hB⟩;exact⟨ok,rfl,_,ok,rfl,eW (n:=4) hp,hB⟩
 intro hc;rw [e6]at hc;rw [if_neg (of_decide_eq_false hc)];exact⟨0,false,rfl,rfl,Below.refl _ _⟩
theorem iZ (c:UInt8) (l:Bs):∀w∈aw c l,w.length≤l.length:=by
 induction l with
 |nil=>intro w hw;simp [aw]at hw;subst hw;simp
 |cons b l ih=>
  intro w hw;simp only [aw]at hw;split at hw
  ·rcases List.mem_cons.1 hw with e |e
   ·subst e;simp
   ·have:=ih w e;simp;omega
  ·cases hc:aw c l with
   |nil=>exact absurd hc (eJ c l)
   |cons x r=>
    rw [hc]at hw ih;rcases List.mem_cons.1 hw with e |e
    ·subst e;have:=ih x (by simp);simp;omega
    ·have:=ih w (by simp [e]);simp;omega
theorem ja (c:UInt8) (l:Bs):(aw c l).length≤l.length+1:=by
 induction l with
 |nil=>simp [aw]
 |cons b l ih=>
  simp only [aw];split
  ·simp;omega
  ·cases hc:aw c l with
   |nil=>simp
   |cons x r=>rw [hc]at ih;simp at ih⊢;omega
def CB (B b:Nat) (o:Option (ai×Nat)) (ok:Bool) (w':World):Prop:=match o with
 |some (s',j)=>ok=true∧∃x',en B b x' s' j w'
 |none=>ok=false
theorem ub (B b:Nat) (x:aG) (s:ai) (k n:Nat) (line:Bs) (w:World) (hR:en B b x s k w) (hs:dO s) (hl:line.length≤100000) (ht:tj w) (he:je w) (hm:Mx w):
  CP 129 #[.pointer (some ⟨b,0,none⟩),.int .i64 n,.string (str line)] w fun e w'=>∃ok:Bool,e= .returned (.bool ok)∧CB B b (cO s k n line) ok w'∧Below B w w':=by
 refine aU (yb (some ⟨b,0,none⟩) n (str line) w) ?_;have hBw:B≤w.heap.size:=Nat.le_trans hR.hB (Nat.le_of_lt hR.lt);refine(H4 line w (by omega) hm).mono ?_;rintro e w1 ⟨rfl,hrow,hB1⟩;refine⟨_,_,_,rfl,?_⟩;rintro w2 rfl;have hB2:Below w.heap.size w w1.drew:=hB1.drew;have hR2:=hR.on hB2;have hrow2:bv w1.drew (some (nb w)) (aw 32 line):=hrow;have hsm:=iZ 32 line;have hct:=ja 32 line;obtain⟨first,ws,hcut⟩:∃f r,aw 32 line=f::r:=by
  cases hc:aw 32 line with
  |nil=>exact absurd hc (eJ 32 line)
  |cons f r=>exact⟨f,r,rfl⟩
 have hln:cO s k n line=iE k n (kT s (first::ws)):=by unfold cO;rw [hcut]
 rw [hcut]at hrow2 hsm hct⊢;obtain⟨p,hp,_,hcp⟩:=hrow2 0 _ rfl;cases hp;refine ae.mk (nb w) rfl ⟨by simp,by simp,str first,hcp,by simp,by simp;omega,trivial,trivial,trivial,?_⟩;have hlt:=hR.lt;have htail:∃a',cu (some (nb w)) (1:Int).toNat (((first::ws).length:Nat):Int).toNat 1=a'∧bv w1.drew a' ws∧∀p,a'=some p→p.block≠b:=by
  refine⟨_,rfl,?_,?_⟩
  ·intro j t hj;have hj':=(List.getElem?_eq_some_iff.1 hj).1;obtain⟨p,hp,hlt,hc⟩:=hrow2 (j+1) t (by simpa using hj);cases hp;have:cu (some (nb w)) (1:Int).toNat (((first::ws).length:Nat):Int).toNat 1=some ((nb w).add 1):=by
    unfold cu;rw [if_neg (by simp;intro e;rw [e]at hj';simp at hj')];rfl
   refine⟨_,this,by rw [aq];exact hlt,?_⟩;rw [aA]at hc⊢;rw [aA];rw [←hc];congr 2;omega
  ·intro p hp;unfold cu at hp;split at hp
   ·cases hp;dsimp only;omega
   ·cases hp;rw [aq];dsimp only;omega
 obtain⟨a',ha',hrow',hoff'⟩:=htail;rw [ha'];have hlen:(((first::ws).length:Nat):Int).toNat- (1:Int).toNat=ws.length:=by simp
 rw [hlen];have hB2B:Below B w w1.drew:=hB2.mono hBw;refine(t_ B b x s k first a' _ ws w1.drew hR2 hs hrow' hoff' (fun y hy=>by have:=hsm y (by simp [hy]);omega) (by simp at hct;omega) (ht.on hB2) (he.on hB2)).mono ?_;rintro e w3 ⟨j,ok,rfl,hp,hB3⟩;have hB23:Below B w w3:=hB2B.trans hB3;refine⟨_,_,rfl,?_⟩;rw [hln];cases ha:kT s (first::ws)with
 |none=>
  rw [ha]at hp;have hp:ok=false:=hp;subst hp;exact aa.yes rfl ⟨false,rfl,rfl,hB23⟩
 |some sj=>
  obtain⟨s',j'⟩:=sj;rw [ha]at hp;obtain⟨rfl,rfl,x',hR'⟩:=hp;refine aa.no rfl ?_;simp only [iE];refine aa.mk ?_ ?_
  ·intro hc;refine⟨false,rfl,?_,hB23⟩;rw [if_neg ?_]
   ·rfl
   ·rintro⟨h1,_⟩;have:((n:Int)==0)=((j':Int)==0):=by
     rw [Bool.eq_iff_iff];simp;omega
    rw [this]at hc;simp at hc
  ·intro hc;have h1:n=0↔j'=0:=by
    simp at hc;rw [Bool.eq_iff_iff]at hc;simp at hc;omega
   refine ae.mk ⟨b,0,none⟩ rfl ⟨_,(aE (j:=6) hR'.blk).trans rfl,aa.mk ?_ ?_⟩
   ·intro hk;have hk:=of_decide_eq_true hk;refine⟨false,rfl,?_,hB23⟩;rw [if_neg (by omega)];rfl
   ·intro hk;have hk:=of_decide_eq_false hk;have cc:∀j v,(tF x' k)[j]? =some v→w3.cell? (((⟨b,0,none⟩:Addr).add 0).add j)=some v:=by
     intro j v hv;rw [an,aE hR'.blk,hv]
    refine ae.mk ⟨b,0,none⟩ rfl ⟨x'.ranked,_,_,_,_,_,_,_,_,_,_,_,_,_,_,_,⟨?_,cc 1 _ rfl,cc 2 _ rfl,cc 3 _ rfl,cc 4 _ rfl,cc 5 _ rfl,trivial⟩,?_⟩
    ·rw [an];have:=aE (j:=0) hR'.blk;rw [an]at this;exact this
    refine(qL x' s' w3 hR'.spec).mono ?_;rintro e w4 ⟨rfl,hB4⟩;have hR4:=hR'.on hB4;have hB34:Below B w w4:=hB23.trans (hB4.mono (Nat.le_trans hR'.hB (Nat.le_of_lt hR'.lt)));refine⟨_,rfl,aa.mk ?_ ?_⟩
    ·intro hr;refine⟨false,rfl,?_,hB34⟩;rw [if_neg (by rintro⟨_,_,e⟩;rw [e]at hr;simp at hr)];rfl
    ·intro hr;have hr:s'.right=true:=by simpa using hr
     refine ae.mk ⟨b,0,none⟩ rfl ⟨rfl,⟨_,(aE (j:=6) hR4.blk).trans rfl⟩,a_ hR4.blk,?_⟩;rintro w5 rfl;refine⟨true,rfl,?_,bg hB34 hR4.hB _⟩;rw [if_pos ⟨h1,by omega,hr⟩];refine⟨rfl,x',hR4.hB,(bo (j:=6) hR4.blk _).trans rfl,hR4.rk,hR4.rows.setCell _ _ (by rw [aq];exact hR4.off),hR4.off⟩
theorem pW {α:Type} {enc:α→List Value} {sz:Nat} {w:World} {a:Option Addr}:Rw enc sz w a []:=by
 intro j x hj;simp at hj
theorem kE (w:World):aM w bX {}:=⟨rfl,rfl,pW,rfl,pW,rfl,pW,rfl,pW,rfl,pW⟩
theorem qt {w w6:World} {c:Array Value} {T:TypeId} (R:Value→World→Prop) (n m:Int) (x:aG) (hblk:w6.heap[w.heap.size]? =some (.cells c T (0,0))) (hc:c.size=6)
  (hR:∀w7,(∀w0,Below w.heap.size w0 w6→Below w.heap.size w0 w7)→(∀j,j≠w.heap.size→w7.heap[j]? =w6.heap[j]?)→R (.tuple #[x.v,.int .i64 n,.int .i64 m]) w7):
  ar w6 (nb w) (fun w7=>
   ∃res0:Bool,∃res1A:Option Addr,∃res1N:Nat,∃res1C:Nat,∃res2A:Option Addr,∃res2N:Nat,∃res2C:Nat,∃res3A:Option Addr,∃res3N:Nat,∃res3C:Nat,∃res4A:Option Addr,∃res4N:Nat,∃res4C:Nat,∃res5A:Option Addr,∃res5N:Nat,∃res5C:Nat,(w7.cell? (nb w)=some (Value.bool res0)∧w7.cell? ((nb w).add 1)=some (Value.slice res1A res1N res1C)∧w7.cell? ((nb w).add 2)=some (Value.slice res2A res2N res2C)∧w7.cell? ((nb w).add 3)=some (Value.slice res3A res3N res3C)∧w7.cell? ((nb w).add 4)=some (Value.slice res4A res4N res4C)∧w7.cell? ((nb w).add 5)=some (Value.slice res5A res5N res5C)∧True)∧
   R (Value.tuple #[Value.agg #[Value.bool res0,Value.slice res1A res1N res1C,Value.slice res2A res2N res2C,Value.slice res3A res3N res3C,Value.slice res4A res4N res4C,Value.slice res5A res5N res5C],Value.int .i64 n,Value.int .i64 m]) w7)
   [Value.bool x.ranked,Value.slice x.s1.a x.s1.n x.s1.c,Value.slice x.s2.a x.s2.n x.s2.c,Value.slice x.s3.a x.s3.n x.s3.c,Value.slice x.s4.a x.s4.n x.s4.c,Value.slice x.s5.a x.s5.n x.s5.c] 0:=by
 refine dG _ 0 w6 c 0 hblk (by simp [hc]) (by intro v hv;simp at hv;rcases hv with rfl |rfl |rfl |rfl |rfl |rfl<;>rfl) ?_
 intro w7 h7 hne hsz hB;have h7':w7.heap[w.heap.size]? =some (.cells x.cells T (0,0)):=by
  rw [h7];congr 2;simp [gS,hc]
 have c0:w7.cell? (nb w)=some (Value.bool x.ranked):=by have:=aE (j:=0) h7';rw [an]at this;exact this.trans rfl
 exact⟨x.ranked,_,_,_,_,_,_,_,_,_,_,_,_,_,_,_,⟨c0,(aE (j:=1) h7').trans rfl,(aE (j:=2) h7').trans rfl,(aE (j:=3) h7').trans rfl,(aE (j:=4) h7').trans rfl,(aE (j:=5) h7').trans rfl,trivial⟩,hR w7 (fun w0 h=>hB _ w0 (Nat.le_refl _) h) hne⟩
def dN (t:Bs) (v:Value) (w':World):Prop:=
 if 60000<t.length then ∃x,v= .tuple #[x.v,.int .i64 0,.int .i64 3]∧aM w' x {}
 else match bW t with
  | .ok s=>∃x,v= .tuple #[x.v,.int .i64 0,.int .i64 0]∧aM w' x s
  | .error m=>∃x,v= .tuple #[x.v,.int .i64 m,.int .i64 2]∧aM w' x {}
theorem p_ (t:Bs) (w:World) (ht:tj w) (he:je w) (hm:Mx w):
  CP 90 #[.string (str t)] w fun e w'=>∃v,e= .returned v∧dN t v w'∧Below w.heap.size w w':=by
 refine(As (str t) w (fun v w'=>dN t v w'∧Below w.heap.size w w') ?_);intro w1 hw1;have hb1:Below w.heap.size w w1:=by rw [hw1];exact ag _ _
 have k1:w1.heap[w.heap.size]? =some (.cells bX.cells bd (0,0)):=by rw [hw1];exact ao w _
 have hlt1:w.heap.size<w1.heap.size:=(Array.getElem?_eq_some_iff.1 k1).1;refine aa.mk ?_ ?_
 ·intro hc;have hc:=of_decide_eq_true hc;rw [aj]at hc;refine qt (fun v w'=>dN t v w'∧Below w.heap.size w w') 0 3 bX k1 rfl ?_;intro w7 hB hne;refine⟨?_,hB w hb1⟩;unfold dN;rw [if_pos (by omega)];exact⟨bX,rfl,kE w7⟩
 ·intro hc;have hc:=of_decide_eq_false hc;rw [aj]at hc;refine(Ai t w1 (by omega) (hm.on hb1)).mono ?_;rintro e w3 ⟨ra,rc,rfl,hrow,hB3⟩;refine⟨_,_,_,_,rfl,?_⟩;intro w4 hw4;have hlt3:w1.heap.size≤w3.heap.size:=hB3.size;have hb3:=ab hb1 hB3;have hb34:Below w3.heap.size w3 w4:=by rw [hw4];exact ag _ _
  have hR4:en w3.heap.size w3.heap.size bX {} 0 w4:=by
   refine⟨Nat.le_refl _,by rw [hw4];exact ao w3 _,rfl,⟨?_,?_⟩,?_⟩
   ·intro r hr;simp at hr;rcases hr with rfl |rfl |rfl |rfl |rfl<;>exact co _ _ _ _
   ·simp only [tQ,List.pairwise_cons];refine⟨?_,?_,?_,?_,?_,List.Pairwise.nil⟩<;>(intro r' _ k hk;cases hk)
   ·intro r hr;simp at hr;rcases hr with rfl |rfl |rfl |rfl |rfl<;>(intro e;cases e)
  have hne0:=eJ 10 t;have hlen:(aw 10 t).dropLast.length=(aw 10 t).length-1:=by simp
  have hpos:0< (aw 10 t).length:=List.length_pos_iff.2 hne0;have hcnt:=ja 10 t;have hsm:=iZ 10 t;have kk:∀ {w5:World},Below w3.heap.size w4 w5→w5.heap[w.heap.size]? =some (.cells bX.cells bd (0,0)):=by
   intro w5 hB;rw [hB.block _ (by omega),hb34.block _ (by omega),hB3.block _ hlt1,k1]
  have bel:∀ {w5:World},Below w3.heap.size w4 w5→Below w.heap.size w w5:=fun hB=>ab hb3 (hb34.trans hB);have bad:∀(m:Nat) {w5:World},Below w3.heap.size w4 w5→bW t= .error m→∀z:Int,z=m→
    ar w5 (nb w) (fun w7=>
   ∃res0:Bool,∃res1A:Option Addr,∃res1N:Nat,∃res1C:Nat,∃res2A:Option Addr,∃res2N:Nat,∃res2C:Nat,∃res3A:Option Addr,∃res3N:Nat,∃res3C:Nat,∃res4A:Option Addr,∃res4N:Nat,∃res4C:Nat,∃res5A:Option Addr,∃res5N:Nat,∃res5C:Nat,(w7.cell? (nb w)=some (Value.bool res0)∧w7.cell? ((nb w).add 1)=some (Value.slice res1A res1N res1C)∧w7.cell? ((nb w).add 2)=some (Value.slice res2A res2N res2C)∧w7.cell? ((nb w).add 3)=some (Value.slice res3A res3N res3C)∧w7.cell? ((nb w).add 4)=some (Value.slice res4A res4N res4C)∧w7.cell? ((nb w).add 5)=some (Value.slice res5A res5N res5C)∧True)∧
   (fun v w'=>dN t v w'∧Below w.heap.size w w') (Value.tuple #[Value.agg #[Value.bool res0,Value.slice res1A res1N res1C,Value.slice res2A res2N res2C,Value.slice res3A res3N res3C,Value.slice res4A res4N res4C,Value.slice res5A res5N res5C],Value.int .i64 z,Value.int .i64 2]) w7)
   [Value.bool false,Value.slice none 0 0,Value.slice none 0 0,Value.slice none 0 0,Value.slice none 0 0,Value.slice none 0 0] 0:=by
   intro m w5 hB hp z hz;refine qt (fun v w'=>dN t v w'∧Below w.heap.size w w') z 2 bX (kk hB) rfl ?_;intro w7 hB7 hne;refine⟨?_,hB7 w (bel hB)⟩;unfold dN;rw [if_neg (by omega),hp];exact⟨bX,by rw [hz],kE w7⟩
  intro I hI;refine aK (α:=aG×ai×Nat×World) ((aw 10 t).length-1)
   (fun i y=>en w3.heap.size w3.heap.size y.1 y.2.1 y.2.2.1 y.2.2.2∧dO y.2.1∧bV {} 0 0 (aw 10 t).dropLast=bV y.2.1 y.2.2.1 i ((aw 10 t).dropLast.drop i)∧Below w3.heap.size w4 y.2.2.2)
   (fun i y=>I [.int .i64 (i:Int),.int .i64 0,.int .i64 0] y.2.2.2) (bX,{},0,w4) ⟨hR4,by simp [dO],rfl,Below.refl _ _⟩ ?_ ?_
  ·rintro i hi ih ⟨x,s,k,w5⟩ ⟨hR,hs,hrd,hB⟩;dsimp only at hR hs hrd hB;refine hI _ _ _ _ (aa.yes (by simp;omega) ?_);have hi':i< (aw 10 t).dropLast.length:=by omega
   have hb5:Below w3.heap.size w3 w5:=hb34.trans hB;obtain⟨p,hpa,_,hcp⟩:=(hrow.on hb5) i _ (List.getElem?_eq_getElem hi');refine ae.mk p hpa ⟨by omega,by omega,str (aw 10 t).dropLast[i],by simpa using hcp,?_⟩;have hll:(aw 10 t).dropLast[i].length≤60000:=by
    have:=hsm _ (List.dropLast_subset _ (List.getElem_mem hi'));omega
   have hall:=bel hB;refine(ub _ _ x s k i (aw 10 t).dropLast[i] w5 hR hs (by omega) (ht.on hall) (he.on hall) (hm.on hall)).mono ?_;rintro e w6 ⟨ok,rfl,hp,hB6⟩;rw [List.drop_eq_getElem_cons hi',bV]at hrd;refine⟨_,rfl,?_⟩;cases hr:cO s k i (aw 10 t).dropLast[i]with
   |none=>
    rw [hr]at hp hrd;have hp:ok=false:=hp;subst hp;refine aa.yes rfl (Ar.ok64 (by omega) (by omega) ?_);exact bad (i+1) (hB.trans hB6) (by unfold bW;rw [hrd]) _ (by simp)
   |some sj=>
    obtain⟨s',j⟩:=sj;rw [hr]at hp hrd;obtain⟨rfl,x',hR'⟩:=hp;refine aa.no rfl (Ar.ok64 (by omega) (by omega) ?_);refine ih (x',s',j,w6) ⟨hR',?_,hrd,hB.trans hB6⟩;refine bT ?_;unfold cO iE at hr;split at hr
    ·cases hr
    ·split at hr
     ·rename_i hg;cases hr;exact hg.2.2
     ·cases hr
  ·rintro⟨x,s,k,w5⟩ ⟨hR,hs,hrd,hB⟩;dsimp only at hR hs hrd hB;refine hI _ _ _ _ (aa.no (by simp) ?_);rw [List.drop_eq_nil_of_le (by omega),bV]at hrd;refine aa.mk ?_ ?_
   ·intro hc1;have hc1:¬(aw 10 t).getLast?=some []:=by simpa using hc1
    refine Ar.ok64 (by omega) (by omega) ?_;exact bad (aw 10 t).length hB (by unfold bW;rw [hrd];dsimp only;rw [if_neg (fun h=>hc1 h.1)]) _ (by omega)
   ·intro hc1;have hc1:(aw 10 t).getLast?=some []:=by simpa using hc1
    refine aa.mk ?_ ?_
    ·intro hc2;have hc2:(((aw 10 t).length-1:Nat):Int)=0:=by simpa using hc2
     refine Ar.ok64 (by omega) (by omega) ?_;exact bad (aw 10 t).length hB (by unfold bW;rw [hrd];dsimp only;rw [if_neg (fun h=>h.2 (List.eq_nil_of_length_eq_zero (by omega)))]) _ (by omega)
    ·intro hc2;have hc2:(((aw 10 t).length-1:Nat):Int)≠0:=by simpa using hc2
     have cc:∀j v,(tF x k)[j]? =some v→w5.cell? (((nb w3).add 0).add j)=some v:=by
      intro j v hv;rw [an,aE hR.blk,hv]
     have cc0:w5.cell? ((nb w3).add 0)=some (.bool x.ranked):=(aE (j:=0) hR.blk).trans rfl;refine⟨x.ranked,_,_,_,_,_,_,_,_,_,_,_,_,_,_,_,⟨cc0,cc 1 _ rfl,cc 2 _ rfl,cc 3 _ rfl,cc 4 _ rfl,cc 5 _ rfl,trivial⟩,?_⟩;refine qt (fun v w'=>dN t v w'∧Below w.heap.size w w') 0 0 x (kk hB) rfl ?_;intro w7 hB7 hne;refine⟨?_,hB7 w (bel hB)⟩;unfold dN;rw [if_neg (by omega)];have hps:bW t= .ok s:=by
      unfold bW;rw [hrd];dsimp only;rw [if_pos ⟨hc1,fun h=>by rw [h]at hlen;simp at hlen;omega⟩]
     rw [hps];refine⟨x,rfl,?_⟩;have hsp:=hR.spec;have hsz:w5.heap.size≤w7.heap.size:=(hB7 w5 (Below.refl _ _)).size;have hoff:∀r∈tQ x s,∀p,r.sl.a=some p→p.block≠w.heap.size:=by
      intro r hr p hp;have h1:r.blk=some p.block:=by
       unfold gB.blk Sl.v;rw [hp];rfl
      have:=(hR.rows.lt hr _ h1).1;omega
     exact⟨hsp.ranked,hsp.n1,hsp.r1.off hne hsz (hoff (row1 x.s1 s) (by simp)),hsp.n2,hsp.r2.off hne hsz (hoff (row2 x.s2 s) (by simp)),hsp.n3,hsp.r3.off hne hsz (hoff (row3 x.s3 s) (by simp)),
      hsp.n4,hsp.r4.off hne hsz (hoff (row4 x.s4 s) (by simp)),hsp.n5,hsp.r5.off hne hsz (hoff (xW x.s5 s) (by simp))⟩
end Go.Proofs.YtijbcdiffjjefaaGreatDoor.Eng
