/- Sifted out of this repo's own templates by tool/sift.py. -/
import Derived.Test.YtijbcdiffjjefaaGreatDoorZwLib
import Derived.Test.YtijbcdiffjjefaaGreatDoorZwAb
import Derived.Test.YtijbcdiffjjefaaGreatDoorZwSh
import Derived.Below
import Derived.Lib.SplitLaws
import Derived.Lib.CountLaws
import Derived.Lib.Split
import Derived.Lib.Join
import Derived.Lib.ItoaNum
import Derived.Lib.AtoiAll
import Derived.Lib.ItoaMem
import Derived.Laws.MakeOwn
import Derived.Lib.AppendIntMem
import Derived.Lib.AtoiErrMem
import Derived.Lib.AppendStr
import Derived.Shelf.Strings.Builder1
import Derived.WideShapes
import Derived.ChangeSame
import Derived.Test.YtijbcdiffjjefaaGreatDoorZwVo
import Derived.Test.YtijbcdiffjjefaaGreatDoorZwRk
import Derived.Test.YtijbcdiffjjefaaGreatDoorZwTab
import Derived.Test.YtijbcdiffjjefaaGreatDoorZwRb
import Derived.RangeFuncFrom
import Derived.RangeFuncCalls
import Derived.RangeFuncLeaves
import Derived.RangeFuncBox
import Derived.Shelf.Abstract
import Derived.Shelf.RegionOpen
import Derived.OwnWalkIn
import Derived.TacticsInMore
import Derived.LoopNIn
import Derived.LoopIn
set_option linter.unusedVariables false
set_option linter.unusedSimpArgs false
set_option maxRecDepth 100000
namespace Go.Proofs.YtijbcdiffjjefaaGreatDoor.Eng
open Go Go.RowKit Go.ChangeShapes Go.WideShapes
def EZ (b:UInt8):Option Nat:=
 if 48≤b.toNat∧b.toNat≤57 then some (b.toNat-48)else if 97≤b.toNat∧b.toNat≤102 then some (b.toNat-87)else none
def pairs:List UInt8→Option (List UInt8)
 | []=>some []
 | [_]=>none
 |a::b::l=>match EZ a,EZ b,pairs l with
  |some x,some y,some r=>some (UInt8.ofNat (16*x+y)::r)
  |_,_,_=>none
def jA (l:List UInt8):Option (List UInt8):=if l= [45]then some []else if l= []then none else pairs l
theorem NW {p:UInt8→Prop} (h:∀n:Fin 256,p (UInt8.ofNat n.val)) (b:UInt8):p b:=by
 have:=h ⟨b.toNat,b.toNat_lt⟩;simpa using this
theorem IR:∀b n,EZ b=some n→n<16:=by
 intro b n h;unfold EZ at h;split at h
 ·cases h;omega
 ·split at h
  ·cases h;omega
  ·cases h
def cH (c:UInt8):List UInt8→List (List UInt8)
 | []=>[[]]
 |b::l=>if b=c then []::cH c l else match cH c l with
  |h::t=>(b::h)::t
  | []=>[[b]]
theorem w_ (c:UInt8) (l:List UInt8):cH c l≠ []:=by
 cases l with
 |nil=>simp [cH]
 |cons b l=>
  simp only [cH];split
  ·simp
  ·split<;>simp
theorem rI (c b:UInt8) (l:List UInt8):Lib.index (b::l) [c]=if b=c then 0 else if Lib.index l [c]= -1 then -1 else Lib.index l [c]+1:=by
 rw [Lib.index];by_cases h:b=c
 ·subst h;simp [List.isPrefixOf]
 ·have:¬c=b:=fun e=>h e.symm;simp [List.isPrefixOf,h,this]
theorem pX (c:UInt8):∀l,Lib.index l [c]= -1→cH c l= [l]
 | [],_=>rfl
 |b::l,h=>by
  rw [rI]at h;by_cases hb:b=c
  ·rw [if_pos hb]at h;omega
  ·rw [if_neg hb]at h;by_cases hi:Lib.index l [c]= -1
   ·simp only [cH,if_neg hb,pX c l hi]
   ·rw [if_neg hi]at h;have:=Lib.index_ge l [c];omega
theorem ta (c:UInt8):∀(l:List UInt8) (i:Nat),Lib.index l [c]=i→cH c l=l.take i::cH c (l.drop (i+1))
 | [],i,h=>by simp [Lib.index]at h
 |b::l,i,h=>by
  rw [rI]at h;by_cases hb:b=c
  ·rw [if_pos hb]at h;have:i=0:=by omega
   subst this;simp [cH,if_pos hb]
  ·rw [if_neg hb]at h;by_cases hi:Lib.index l [c]= -1
   ·rw [if_pos hi]at h;omega
   ·rw [if_neg hi]at h;have a:=Lib.index_ge l [c];obtain⟨j,rfl⟩:∃j,i=j+1:=⟨i-1,by omega⟩;have:=ta c l j (by omega);simp only [cH,if_neg hb,this];simp
theorem qv (c:UInt8) (l:List UInt8):Lib.index l [c]= -1∨∃i:Nat,Lib.index l [c]=i∧i<l.length:=by
 have a:=Lib.index_ge l [c];by_cases h:Lib.index l [c]= -1
 ·exact .inl h
 ·right;have:=Lib.index_room l [c] (by omega);refine⟨(Lib.index l [c]).toNat,by omega,?_⟩;simp at this;omega
theorem Kj (c:UInt8) (l:List UInt8) (h:Lib.index l [c]= -1):Lib.cut l [c]=(l,[],false):=by
 unfold Lib.cut;rw [if_neg (by omega)]
theorem L2 (c:UInt8) (l:List UInt8) (i:Nat) (h:Lib.index l [c]=i):Lib.cut l [c]=(l.take i,l.drop (i+1),true):=by
 unfold Lib.cut;rw [if_pos (by omega),h];simp
theorem za (c:UInt8) (n:Nat):∀l:List UInt8,l.length≤n→Lib.splitK [c] 0 (Lib.count l [c]) l=cH c l:=by
 induction n with
 |zero=>
  intro l a;have:l= []:=List.eq_nil_of_length_eq_zero (by omega);subst this;simp [cH,Lib.count_one,Lib.splitK]
 |succ n ih=>
  intro l a;rcases qv c l with h |⟨i,h,b⟩
  ·rw [Lib.count_miss h,pX c l h];simp [Lib.splitK]
  ·rw [Lib.count_hit (by simp) h,ta c l i h,Nat.add_comm];have:=ih (l.drop (i+1)) (by rw [List.length_drop];omega);simp only [Lib.splitK,h];rw [if_neg (by simp)];simp only [Int.toNat_natCast,Nat.add_zero,List.length_singleton,this]
theorem sx (c:UInt8) (s:ByteArray):(Lib.splitB ⟨#[c]⟩ 0 (Lib.countB s ⟨#[c]⟩) s).map (·.data.toList)=cH c s.data.toList:=by
 rw [Lib.splitB_data];exact za c s.data.toList.length s.data.toList (XV _)
theorem yH (c:UInt8) (s:ByteArray):(cH c s.data.toList).length=Lib.countB s ⟨#[c]⟩+1:=by
 rw [←sx,List.length_map];exact Lib.splitB_all ⟨#[c]⟩ (show 1≤1 from XV 1) 0 _ s rfl
def F3 (b:UInt8):Prop:=48≤b.toNat∧b.toNat≤57
def jG (n:Nat) (l:List UInt8):Nat:=l.foldl step n
theorem JM (n:Nat):jG n []=n:=rfl
theorem pN (n:Nat) (b:UInt8) (r:List UInt8):jG n (b::r)=jG (step n b) r:=by unfold jG;rw [List.foldl_cons]
theorem sE (n:Nat) (b:UInt8):jG n [b]=step n b:=rfl
def wW (l:List UInt8):Prop:=l≠ []∧(∀b∈l,F3 b)∧(1<l.length→l.head?≠some 48)
def yZ:Nat:=9223372036854775807
theorem ql (a b:List UInt8) (n:Nat):jG n (a++b)=jG (jG n a) b:=List.foldl_append
theorem Gn (l:List UInt8):∀n,n≤jG n l:=by
 induction l with
 |nil=>intro n;exact XV _
 |cons b l ih=>intro n;rw [pN];exact XW (by unfold step;omega) (ih _)
theorem tK (d:Nat) (h:d<10):(UInt8.ofNat (48+d)).toNat=48+d:=by simp;omega
theorem Jd (b:UInt8) (h:F3 b):UInt8.ofNat (48+(b.toNat-48))=b:=by
 unfold F3 at h;rw [show 48+(b.toNat-48)=b.toNat by omega];simp
theorem Cb (u:Nat):jG 0 (Lib.decDigits u)=u:=by
 induction u using Nat.strongRecOn with
 |_ u ih=>
  rw [Lib.decDigits];split
  ·rename_i h;rw [sE,step,tK u h];omega
  ·rename_i h;rw [ql,ih (u/10) (by omega)];rw [sE,step,tK (u%10) (by omega)];omega
theorem Fd (u:Nat):Lib.decDigits u≠ []:=by
 rw [Lib.decDigits];split<;>simp
theorem ua (u:Nat):∀b∈Lib.decDigits u,F3 b:=by
 induction u using Nat.strongRecOn with
 |_ u ih=>
  rw [Lib.decDigits];split
  ·rename_i h;intro b a;simp only [List.mem_singleton]at a;subst a;unfold F3;rw [tK u h];omega
  ·rename_i h;intro b a;rcases List.mem_append.1 a with a |a
   ·exact ih (u/10) (by omega) b a
   ·simp only [List.mem_singleton]at a;subst a;unfold F3;rw [tK (u%10) (by omega)];omega
theorem JT (u:Nat):u≠0→(Lib.decDigits u).head?≠some 48:=by
 induction u using Nat.strongRecOn with
 |_ u ih=>
  intro b;rw [Lib.decDigits];split
  ·rename_i h;intro e;simp only [List.head?_cons,Option.some.injEq]at e;have:=congrArg UInt8.toNat e;rw [tK u h]at this;simp at this;omega
  ·rename_i h;have a:=Fd (u/10);have:=ih (u/10) (by omega) (by omega);cases hd:Lib.decDigits (u/10)with
   |nil=>exact absurd hd a
   |cons x xs=>rw [hd]at this;simpa using this
theorem A0 (u:Nat):wW (Lib.decDigits u):=by
 refine⟨Fd u,ua u,fun h=>?_⟩;by_cases h0:u=0
 ·subst h0;rw [Lib.decDigits]at h;simp at h
 ·exact JT u h0
theorem yW (n:Nat):∀l:List UInt8,l.length≤n→wW l→Lib.decDigits (jG 0 l)=l:=by
 induction n with
 |zero=>intro l k h;exact absurd (List.eq_nil_of_length_eq_zero (by omega)) h.1
 |succ n ih=>
  intro l k h;obtain⟨a,b,rfl⟩:∃a b,l=a++ [b]:=⟨l.dropLast,l.getLast h.1,(List.dropLast_concat_getLast h.1).symm⟩;have f:F3 b:=h.2.1 b (by simp);have g:=f;unfold F3 at g;rw [ql,sE,step];cases hl':a with
  |nil=>
   rw [JM];rw [Lib.decDigits_one (show 10*0+(b.toNat-48) <10 by omega),show 48+(10*0+(b.toNat-48))=48+(b.toNat-48) by omega,Jd b f];rfl
  |cons x t=>
   rw [←hl'];have i:a.head?≠some 48:=by
    have:=h.2.2 (by rw [hl'];simp);rw [hl']at this⊢;simpa using this
   have j:F3 x:=h.2.1 x (by rw [hl'];simp);have p:1≤jG 0 a:=by
    rw [hl']at i⊢;rw [pN];refine XW ?_ (Gn t _);unfold step;have m:x.toNat≠48:=by
     intro e;apply i;simp only [List.head?_cons,Option.some.injEq];exact UInt8.toNat_inj.1 e
    unfold F3 at j;omega
   have d:=ih a (by simp at k;omega) ⟨by rw [hl'];simp,fun c o=>h.2.1 c (by simp [o]),fun _=>i⟩;rw [Lib.decDigits,dif_neg (by omega),show(10*jG 0 a+(b.toNat-48))/10=jG 0 a by omega,d,show(10*jG 0 a+(b.toNat-48))%10=b.toNat-48 by omega,Jd b f]
theorem vQ (l:List UInt8):∀acc,(∀b∈l,F3 b)→jG acc l<18446744073709551616→Lib.parseUint10 acc l= .ok (jG acc l):=by
 induction l with
 |nil=>intro acc _ _;rfl
 |cons b l ih=>
  intro acc g e;have f:=g b (by simp);unfold F3 at f;rw [pN]at e⊢;have d:=Nat.lt_of_le_of_lt (Gn l (step acc b)) e;have a:=ih (step acc b) (fun c h=>g c (by simp [h])) e;unfold step at d;rw [Lib.parseUint10,if_pos f,if_neg (by omega),if_neg (by omega),show acc*10+(b.toNat-48)=step acc b by unfold step;omega];exact a
theorem oy (u:Nat) (h:u≤yZ):Lib.atoiAll (Lib.decDigits u)= .ok (u:Int):=by
 unfold yZ at h;have a:=ua u;have b:=Cb u;cases hl:Lib.decDigits u with
 |nil=>exact absurd hl (Fd u)
 |cons c r=>
  have d:F3 c:=a c (by rw [hl];simp);unfold F3 at d;have e:Lib.parseMag (c::r)= .ok u:=by
   unfold Lib.parseMag;rw [if_neg (by simp), ←hl,vQ _ 0 a (by rw [b];omega),b]
  simp only [Lib.atoiAll];rw [if_neg (by omega),e];simp only [];rw [if_neg (by omega),if_neg (by omega),if_neg (by omega)]
open Classical in
noncomputable def hU (l:List UInt8) (most:Int):Option Nat:=if wW l∧jG 0 l≤yZ∧(jG 0 l:Int)≤most then some (jG 0 l)else none
theorem qf (l:List UInt8) (most:Int) (u:Nat) (hu:u≤yZ) (hm:(u:Int)≤most) (h:Lib.decDigits u=l):hU l most=some u:=by
 subst h;unfold hU;rw [Cb,if_pos ⟨A0 u,hu,hm⟩]
theorem yk (l:List UInt8) (most:Int) (h:∀u:Nat,u≤yZ→(u:Int)≤most→Lib.decDigits u≠l):hU l most=none:=by
 unfold hU;rw [if_neg];rintro⟨a,b,c⟩;exact h _ b c (yW l.length l (XV _) a)
abbrev ox:Int:=1073741824
noncomputable def iR (w:Bs):Option Int:=(hU w ox).map fun u=>(u:Int)
noncomputable def kT:List Bs→Option (Int×Int)
 | [a,b]=>match iR a,iR b with
  |some x,some y=>some (x,y)
  |_,_=>none
 |_=>none
noncomputable def qM:List Bs→Option (Int×Int×Int)
 | [a,b,c]=>match iR a,iR b,iR c with
  |some x,some y,some z=>some (x,y,z)
  |_,_,_=>none
 |_=>none
def He:List Bs→Option Bs
 | [a]=>jA a
 |_=>none
noncomputable def lJ:List Bs→Option (Int×Bs)
 | [a,b]=>match iR a,jA b with
  |some x,some y=>some (x,y)
  |_,_=>none
 |_=>none
noncomputable def uI (s:am):List Bs→Option (am×Nat)
 | []=>none
 |first::l=>
  if first=wG then
   (if l= [xn]then some ({s with ranked:=true},0)else if l= [oW]then some ({s with ranked:=false},0)else none)
  else if first=wU then(kT l).map fun m=>({s with merges:=s.merges++ [m]},1)
  else if first=wv then(He l).map fun m=>({s with tokens:=s.tokens++ [m]},1)
  else if first=jH then(lJ l).map fun m=>({s with specials:=s.specials++ [m]},2)
  else if first=pp then(qM l).map fun m=>({s with classes:=s.classes++ [m]},3)
  else if first=Gs then(kT l).map fun m=>({s with joins:=s.joins++ [m]},4)
  else none
def K4 (k n:Nat):Option (am×Nat)→Option (am×Nat)
 |none=>none
 |some (x,j)=>if(n=0↔j=0)∧k≤j∧x.right=true then some (x,j)else none
noncomputable def gz (s:am) (k n:Nat) (line:Bs):Option (am×Nat):=K4 k n (uI s (cH 32 line))
noncomputable def jq (s:am) (k n:Nat):List Bs→Except Nat (am×Nat)
 | []=>.ok (s,k)
 |l::r=>match gz s k n l with
  |none=>.error (n+1)
  |some (x,j)=>jq x j (n+1) r
noncomputable def jz (t:Bs):Except Nat am:=
 match jq {} 0 0 (cH 10 t).dropLast with
 | .error n=>.error n
 | .ok s=>if(cH 10 t).getLast?=some []∧(cH 10 t).dropLast≠ []then .ok s.1 else .error (cH 10 t).length
theorem F0 (l:List UInt8):((str l).toList==(⟨#[]⟩:ByteArray).toList)=decide (l= []):=by
 rw [show(⟨#[]⟩:ByteArray)=str []from rfl,cG,cG];cases l<;>simp
theorem nu:∀n:Fin 256,Lib.indexByte Kx (UInt8.ofNat n.val)=match EZ (UInt8.ofNat n.val)with |some k=>(k:Int) |none=> -1:=by decide+kernel
theorem tO (b:UInt8):Lib.indexByte Kx b=match EZ b with |some k=>(k:Int) |none=> -1:=
 NW (p:=fun b=>Lib.indexByte Kx b=match EZ b with |some k=>(k:Int) |none=> -1) nu b
theorem Lv (b:UInt8):((b.toNat:Int)).toNat.toUInt8=b:=by simp
theorem sd (b:UInt8) (w:World):
  CP 295 #[.int .u8 b.toNat] w fun e w'=>e= .returned (.int .i64 (match EZ b with |some k=>(k:Int) |none=> -1))∧w'=w:=by
 refine aV (Cu b.toNat w) ?_;refine(Tryz.strings_IndexByte _ _ w).mono ?_;rintro e w' ⟨rfl,rfl⟩;rw [Lv];exact⟨_,rfl,by rw [show(ByteArray.mk #[48,49,50,51,52,53,54,55,56,57,97,98,99,100,101,102]).data.toList=Kx from rfl,tO],rfl⟩
def O7:Option (List UInt8)→Value
 |some r=>.tuple #[.string (str r),.bool true]
 |none=>.tuple #[.string (str []),.bool false]
theorem eW (a b:List UInt8):((str a).toList==(str b).toList)=decide (a=b):=by
 rw [cG,cG];by_cases h:a=b
 ·subst h;simp
 ·simp [h]
theorem ES (l acc:List UInt8) (i:Nat) (h:i+1<l.length) (hp:pairs l=(pairs (l.drop i)).map (acc++ ·)) (x y:Nat) (hx:EZ l[i]=some x) (hy:EZ l[i+1]=some y):
  pairs l=(pairs (l.drop (i+2))).map ((acc++ [UInt8.ofNat (16*x+y)])++ ·):=by
 rw [hp,List.drop_eq_getElem_cons (show i<l.length by omega),List.drop_eq_getElem_cons (show i+1<l.length by omega)];simp only [pairs,hx,hy];cases pairs (l.drop (i+1+1))with
 |none=>rfl
 |some r=>simp
theorem vr (l acc:List UInt8) (i:Nat) (h:i+1<l.length) (hp:pairs l=(pairs (l.drop i)).map (acc++ ·)) (hb:EZ l[i]=none∨EZ l[i+1]=none):pairs l=none:=by
 rw [hp,List.drop_eq_getElem_cons (show i<l.length by omega),List.drop_eq_getElem_cons (show i+1<l.length by omega)];rcases hb with hb |hb
 ·simp [pairs,hb]
 ·simp only [pairs,hb];cases EZ l[i]<;>rfl
theorem DQ (l acc:List UInt8) (i:Nat) (h:l.length≤i) (hp:pairs l=(pairs (l.drop i)).map (acc++ ·)):pairs l=some acc:=by
 rw [hp,List.drop_eq_nil_of_le h];simp [pairs]
theorem Ez (n:Nat):∀l:List UInt8,l.length≤n→∀r,pairs l=some r→l.length=2*r.length:=by
 induction n with
 |zero=>
  intro l c r h;cases l with
  |nil=>simp [pairs]at h;subst h;rfl
  |cons a l=>simp at c
 |succ n ih=>
  intro l c r h
  match l,c,h with
  | [],_,h=>simp [pairs]at h;subst h;rfl
  | [_],_,h=>simp [pairs]at h
  |a::b::l,c,h=>
   simp only [pairs]at h;split at h
   ·rename_i x y e _ _ d;cases h;have:=ih l (by simp at c;omega) _ d;simp;omega
   ·cases h
theorem xo (l:List UInt8) (h1:l≠ [45]) (h2:l≠ []):jA l=pairs l:=by
 unfold jA;rw [if_neg h1,if_neg h2]
theorem Lx (x y:Nat) (hx:x<16) (hy:y<16):IntKind.wrap .u8 ((x:Int)*16+y)=((UInt8.ofNat (16*x+y)).toNat:Int):=by
 rw [cL (k:=.u8) (by simp [IntKind.min,IntKind.signed];omega) (by simp [IntKind.max,IntKind.signed,IntKind.bits];omega)];have:(UInt8.ofNat (16*x+y)).toNat=16*x+y:=by simp;omega
 omega
theorem uf (l:List UInt8) (w:World) (hl:l.length≤2000000):
  CP 269 #[.string (str l)] w fun e w'=>e= .returned (O7 (jA l))∧ZH w w':=by
 refine aV (zK (str l) w) ?_;refine ac.mk ?_ ?_
 ·intro h;rw [show(⟨#[45]⟩:ByteArray)=str [45]from rfl,eW]at h;have h:=XQ h;subst h;exact⟨rfl,Below.refl _ _⟩
 ·intro n;rw [show(⟨#[45]⟩:ByteArray)=str [45]from rfl,eW]at n;have n:=XX n;refine ac.mk ?_ ?_
  ·intro h;rw [F0]at h;have h:=XQ h;subst h;exact⟨rfl,Below.refl _ _⟩
  ·intro o;rw [F0]at o;have o:=XX o;have p:=xo l n o;rw [p];refine⟨by decide,?_⟩;rw [aP,show Int.tmod (l.length:Int) 2=((l.length%2:Nat):Int)from rfl,show Int.tdiv (l.length:Int) 2=((l.length/2:Nat):Int)from rfl];refine ac.mk ?_ ?_
   ·intro g;have g:l.length%2≠0:=by
     intro e;rw [e]at g;simp at g
    refine⟨?_,Below.refl _ _⟩;cases j:pairs l with
    |none=>rfl
    |some r=>have:=Ez l.length l (XV _) r j;omega
   ·intro g;have g:l.length%2=0:=by
     rcases Nat.mod_two_eq_zero_or_one l.length with e |e
     ·exact e
     ·rw [e]at g;simp at g
    refine⟨by decide,?_⟩;rw [cL (k:=.i64) (by simp [IntKind.min,IntKind.signed,IntKind.bits];omega) (by simp [IntKind.max,IntKind.signed,IntKind.bits];omega)];obtain⟨i,s,T,S,Q⟩:=info_parts Fq;obtain⟨E,t,m,q⟩:=run_make_own (P:=Tryz.prog) w w.heap.size ic kI i _ 1 gc s T S .i64 .i64 (l.length/2) (by rw [Q];omega) (by simp [maxLen];omega) (XV _);refine⟨_,_,_,E,t,?_⟩;intro I B;have v:=qL (α:=Option Addr×Nat×Nat×Bool×ByteArray×World) (l.length/2)
     (fun k x=>∃b,pairs l=(pairs (l.drop (2*k))).map (b++ ·)∧b.length≤k∧x.2.2.2.2.2.ownsRow w.heap.size kI 1 (.slice x.1 x.2.1 x.2.2.1) x.2.1 (Lib.byteCells b)∧ZH w x.2.2.2.2.2)
     (fun k x=>I [.int .i64 ((2*k:Nat):Int),.slice x.1 x.2.1 x.2.2.1,.bool x.2.2.2.1,.string x.2.2.2.2.1] x.2.2.2.2.2) ?_ ?_ 0 (Nat.zero_le _) (some ⟨w.heap.size,0,none⟩,0,l.length/2,false,str [],E)
    ·refine v ⟨[],?_,XV _,m,(Below.refl _ w).grown q (XV _) (fun _ h=>by cases h)⟩;simp
    ·rintro⟨K,A,L,H,G,z⟩ ⟨b,j,_,a,f⟩;refine B _ _ _ _ _ _ _ (ac.no (XZ (by omega)) ?_);have R:=DQ l b _ (by omega) j;refine⟨_,_,eQ gc vP m' a,?_,f⟩;rw [R];rfl
    ·rintro k V U ⟨K,A,L,H,G,z⟩ ⟨b,j,C,a,f⟩;have d:2*k+1<l.length:=by omega
     refine B _ _ _ _ _ _ _ (ac.yes (XJ (by omega)) ?_);rintro W rfl;refine⟨by omega,by omega,Ar.ok64 (by omega) (by omega) ?_⟩;refine⟨by omega,by omega,?_⟩;rw [dB l (2*k) (by omega),show((2*k:Nat):Int)+1=((2*k+1:Nat):Int) by omega,dB l (2*k+1) d];refine(sd _ z.drew).mono ?_;rintro e X ⟨rfl,rfl⟩;refine⟨_,rfl,?_⟩;refine(sd _ z.drew).mono ?_;rintro e Y ⟨rfl,rfl⟩;refine⟨_,rfl,?_⟩;cases hx:EZ l[2*k]with
     |none=>
      refine ac.yes rfl ⟨?_,f.drew⟩;rw [vr l b _ d j (.inl hx)];rfl
     |some x=>
      cases hy:EZ l[2*k+1]with
      |none=>
       refine ac.no (XZ (by dsimp only;omega)) (ac.yes rfl ⟨?_,f.drew⟩);rw [vr l b _ d j (.inr hy)];rfl
      |some y=>
       have N:=IR _ _ hx;have O:=IR _ _ hy;refine ac.no (XZ (by dsimp only;omega)) (ac.no (XZ (by dsimp only;omega)) ?_);dsimp only;refine Ar.ok64 (by omega) (by omega) (Ar.ok64 (by omega) (by omega) ?_);rw [Lx x y N O];rintro Z rfl;have D:=a.1;dsimp only at D a f;rw [Lib.byteCells_length]at D;obtain⟨J,M,F,t,c,q,_⟩:=iD (P:=Tryz.prog) ic kI gc Fq rfl (by decide) (eA a) [.int .u8 (UInt8.ofNat (16*x+y)).toNat] rfl (by intro u p;simp at p;subst p;rfl) (by omega) (by omega) f.size;refine⟨_,_,_,F,t,Ar.ok64 (by omega) (by omega) ?_⟩;rw [tV]at c;have:=U (J,A+1,M,H,G,F) ⟨b++ [UInt8.ofNat (16*x+y)],ES l b _ d j x y hx hy,by simp;omega,c,fB f.drew (eA a) q f.size⟩;rw [show((2*k:Nat):Int)+2=((2*(k+1):Nat):Int) by omega];exact this
abbrev EH (w:World):Prop:=Lib.TabIs Tryz.prog w "internal/strconv.uint64pow10" .u64 Lib.pow10Tab
theorem EH.on {w w':World} (h:EH w) (hb:ZH w w'):EH w':=Lib.tabBelow_of_tabIs h w' hb
theorem yY (n:Int) (w:World) (hn:S4 n) (ht:EH w):
  CP 297 #[.int .i64 n] w fun e w'=>e= .returned (.string (str (Lib.itoa n)))∧ZH w w':=by
 refine aV (CS n w) ?_;refine(Tryz.strconv_Itoa n hn.1 hn.2 w ht).mono ?_;rintro e w' ⟨rfl,k,a,rfl⟩;exact⟨_,rfl,rfl,Lib.below_grow _ w (XV _) k a⟩
theorem ww (xs:List (List UInt8)) (s:List UInt8):fW xs++ [.string (str s)]=fW (xs++ [s]):=by simp [fW]
theorem HZ {base:Nat} {w:World} {a:Option Addr} {n c:Nat} {xs:List (List UInt8)} (h:w.ownsRow base dN 1 (.slice a n c) n (fW xs)) (s:List UInt8) (hx:xs.length≤1000000) (hB:base≤w.heap.size):
  ∃a' c' w3,(Builtin.append_ #[eH,eH] eH #[.slice a n c,.slice (some (nb w)) 1 1]).run Tryz.prog (w.alloc (.cells #[.string (str s)] dN))= .ok (.slice a' (n+1) c') w3∧
   w3.ownsRow base dN 1 (.slice a' (n+1) c') (n+1) (fW (xs++ [s]))∧∀w0,Below base w0 w→Below base w0 w3:=by
 have j:=(dy.of_own h).2.1;obtain⟨a',c',i,g,b,f,_⟩:=iD (P:=Tryz.prog) eH dN jc jk rfl (by decide) h [.string (str s)] rfl (by intro u d;simp at d;subst d;rfl) (by omega) (by omega) hB;rw [ww]at b;exact⟨a',c',i,g,b,fun w0 e=>fB e h f hB⟩
abbrev Mx (w:World):Prop:=∃m,w.cell? ⟨0,0,none⟩=some (.int .i64 m)
theorem Mx.on {w w':World} (h:Mx w) (hb:ZH w w'):Mx w':=by
 obtain⟨m,b⟩:=h;have a:0<w.heap.size:=World.block_lt_of_cell? _ _ b;exact⟨m,by rw [hb.cell a];exact b⟩
theorem Ot (l:List UInt8) (w:World) (hl:l.length≤1000000) (hm:Mx w):
  CP 186 #[.string (str l)] w fun e w'=>e= .returned (.slice (some (nb w)) (cH 32 l).length (cH 32 l).length)∧dy w' (some (nb w)) (cH 32 l)∧ZH w w':=by
 refine aV (Bo (str l) w) ?_;obtain⟨m,hm⟩:=hm;refine(Tryz.strings_Split (str l) ⟨#[32]⟩ m w (by rw [aP];omega) hm (XV 1)).mono ?_;rintro e d ⟨rfl,rfl⟩;have a:(cH 32 l).length=Lib.countB (str l) ⟨#[32]⟩+1:=yH 32 (str l);refine⟨_,_,_,rfl,by rw [a],?_,ah _ _⟩;intro j s b;refine⟨_,rfl,by rw [aK];exact Nat.lt_succ_self _,?_⟩;rw [aG,Nat.zero_add,bn];rw [show cH 32 l=cH 32 (str l).data.toList from rfl, ←sx]at b;rw [List.getElem?_map,Option.map_eq_some_iff]at b;obtain⟨x,c,rfl⟩:=b;simp only [List.getElem?_toArray,List.getElem?_map,c,Option.map_some]
theorem Ec (l:List UInt8) (w:World) (hl:l.length≤100000) (hm:Mx w):
  CP 128 #[.string (str l)] w fun e w'=>∃a c,e= .returned (.tuple #[.slice a ((cH 10 l).length-1) c,.bool (decide ((cH 10 l).getLast?=some []))])∧dy w' a (cH 10 l).dropLast∧ZH w w':=by
 refine aV (xR (str l) w) ?_;intro I E;have D:∀(k:Nat) (r:List UInt8),r.length≤k→∀(d:List (List UInt8)) (a:Option Addr) (n c:Nat) (u:Bool) (v:Option Addr) (y x:Nat) (j:World),cH 10 l=d++cH 10 r→d.length+r.length≤l.length→
   j.ownsRow w.heap.size dN 1 (.slice a n c) n (fW d)→ZH w j→I [.slice a n c,.bool u,.slice v y x,.string (str r)] j:=by
  intro k;induction k with
  |zero=>
   intro r K d a n c u v y x j b A g s;have:r= []:=List.eq_nil_of_length_eq_zero (by omega);subst this;refine E _ _ _ _ _ _ _ _ _ ?_;obtain⟨m,hm⟩:=hm.on s;refine(Tryz.strings_Cut (str []) ⟨#[10]⟩ m j (by decide) hm).mono ?_;rintro e L ⟨rfl,q,rfl⟩;refine⟨_,_,_,rfl,?_⟩;rw [show Lib.cut (str []).data.toList (⟨#[10]⟩:ByteArray).data.toList=([],[],false)from rfl];refine ac.yes rfl ?_;obtain⟨f,C,J⟩:=dy.of_own g;have f:dy (j.drewN q) a d:=f;have b:cH 10 l=d++ [[]]:=b;refine⟨a,c,?_,?_,s.trans ⟨rfl,rfl,rfl,XV _,fun _ _=>rfl⟩⟩
   ·rw [b];simp [C]
   ·rw [b];simpa using f
  |succ k ih=>
   intro r K d a n c u v y x j b A g s;refine E _ _ _ _ _ _ _ _ _ ?_;obtain⟨m,B⟩:=hm.on s;refine(Tryz.strings_Cut (str r) ⟨#[10]⟩ m j (by rw [aP];omega) B).mono ?_;rintro e L ⟨rfl,q,rfl⟩;refine⟨_,_,_,rfl,?_⟩;have o:Below w.heap.size w (j.drewN q):=s.trans ⟨rfl,rfl,rfl,XV _,fun _ _=>rfl⟩;obtain⟨f,C,J⟩:=dy.of_own g;have f:dy (j.drewN q) a d:=f;rw [show(str r).data.toList=r from rfl,show(⟨#[10]⟩:ByteArray).data.toList= [10]from rfl];rcases qv 10 r with h |⟨i,h,M⟩
   ·rw [Kj 10 r h];rw [pX 10 r h]at b;refine ac.yes rfl ?_;refine⟨a,c,?_,?_,o⟩
    ·rw [b,show(⟨#[]⟩:ByteArray)=str []from rfl,eW];simp [C]
    ·rw [b];simpa using f
   ·rw [L2 10 r i h];rw [ta 10 r i h]at b;refine ac.no rfl ?_;rintro N rfl;obtain⟨G,H,F,t,p,z⟩:=HZ (w:=j.drewN q) (base:=w.heap.size) g (r.take i) (by omega) o.size;refine⟨_,_,_,F,t,?_⟩;refine ih (r.drop (i+1)) (by rw [List.length_drop];omega) (d++ [r.take i]) G (n+1) H u v y x F (by rw [b];simp) ?_ p (z _ o);rw [List.length_append,List.length_drop];simp;omega
 exact D l.length l (XV _) [] none 0 0 false none 0 0 w rfl (by simp) (cU _ _ _ _) (Below.refl _ _)
def N6:Option Nat→Value
 |some u=>.tuple #[.int .i64 u,.bool true]
 |none=>.tuple #[.int .i64 0,.bool false]
theorem KK (n:Nat) (w:World):(do eqGuard .neq 372 (.tmp n) (.const Value.nilIface) Value.nilIface Value.nilIface;binOp .neq 372 Value.nilIface Value.nilIface).run Tryz.prog w= .ok (.bool false) w:=by kernel_rfl
theorem zS (k:TypeId) (p:Option Addr) (n:Nat) (w:World):(do eqGuard .neq 372 (.tmp n) (.const Value.nilIface) (Value.iface k (.pointer p)) Value.nilIface;binOp .neq 372 (Value.iface k (.pointer p)) Value.nilIface).run Tryz.prog w= .ok (.bool true) w:=by kernel_rfl
abbrev nZ (w:World):Prop:=(∃tp p,w.var? Tryz.prog "strconv.ErrSyntax" =some #[.iface tp p])∧(∃tp p,w.var? Tryz.prog "strconv.ErrRange" =some #[.iface tp p])
theorem HQ {P:Program} {w w':World} {n:String} {cs:Array Value} (h:w.var? P n=some cs) (hb:ZH w w'):w'.var? P n=some cs:=by
 unfold World.var? at*;cases hg:P.globalNamed n with
 |none=>simp [hg]at h
 |some g=>
  simp only [hg,Option.bind_some]at h⊢;have b:g<w.heap.size:=by
   rcases Nat.lt_or_ge g w.heap.size with a |a
   ·exact a
   ·rw [Array.getElem?_eq_none a]at h;simp at h
  rw [hb.block g b];exact h
theorem nZ.on {w w':World} (h:nZ w) (hb:ZH w w'):nZ w':=by
 obtain⟨⟨e,c,a⟩,⟨f,d,b⟩⟩:=h;exact⟨⟨e,c,HQ a hb⟩,⟨f,d,HQ b hb⟩⟩
theorem yQ {l:List UInt8} {v:Int} (h:Lib.atoiAll l= .ok v):S4 v:=by
 unfold S4;cases l with
 |nil=>simp [Lib.atoiAll]at h
 |cons c r=>
  simp only [Lib.atoiAll]at h;split at h
  ·cases h
  ·cases h
  ·split at h
   ·cases h
   ·split at h
    ·cases h
    ·injection h with h
     split at h<;>omega
theorem um (l:List UInt8) (most:Int) (w:World) (hl:l.length≤1000000) (ht:EH w) (he:nZ w):
  CP 270 #[.string (str l),.int .i64 most] w fun e w'=>e= .returned (N6 (hU l most))∧ZH w w':=by
 refine aV (AI (str l) most w) ?_;have a:(∀u:Nat,u≤yZ→(u:Int)≤most→Lib.decDigits u≠l)→Ending.returned (Value.tuple #[.int .i64 0,.bool false])= .returned (N6 (hU l most)):=fun h=>by rw [yk l most h];rfl
 have j:∀ {tp:TypeId} {x:Int} {g:World} {N:Nat},(∀v,Lib.atoiAll l≠ .ok v)→ZH w g→Ending.returned (Value.tuple #[.int .i64 0,.bool false])= .returned (N6 (hU l most))∧ZH w g:=by
  intro tp x g N h c;exact⟨a fun u o _ e=>h u (by rw [←e];exact oy u o),c⟩
 cases h:Lib.atoiAll l;case ok v=>
  have i:=yQ h;refine(Tryz.strconv_Atoi_ok (str l) (by rw [aP];omega) v h w).mono ?_;rintro e g ⟨rfl,A⟩;have c:ZH w g:=by
   rcases A with rfl |⟨t,rfl⟩
   ·exact Below.refl _ _
   ·exact Lib.bytesWorld_below _ _ _
  refine⟨_,_,rfl,_,_,KK _ _,ac.no rfl (ac.mk ?_ ?_)⟩
  ·intro k;have k:=XQ k;refine⟨a fun u o _ e=>?_,c⟩;rw [←e,oy u o]at h;injection h with h
   omega
  ·intro k;have k:=XX k;refine ac.mk ?_ ?_
   ·intro n;have n:=XQ n;refine⟨a fun u o z e=>?_,c⟩;rw [←e,oy u o]at h;injection h with h
    omega
   ·intro n;have n:=XX n;refine(yY v g i (ht.on c)).mono ?_;rintro e B ⟨rfl,y⟩;have m:=ae c y;obtain⟨u,rfl⟩:∃u:Nat,v=u:=⟨v.toNat,by omega⟩;rw [Lib.itoa_nonneg];refine⟨_,rfl,ac.mk ?_ ?_⟩
    ·intro f;rw [eW]at f;have f:Lib.decDigits u≠l:=by simpa using f
     refine⟨a fun s q _ e=>?_,m⟩;rw [←e,oy s q]at h;injection h with h
     have:s=u:=by omega
     subst this;exact f e
    ·intro d;rw [eW]at d;have d:Lib.decDigits u=l:=by simpa using d
     refine⟨?_,m⟩;have r:=i.2;rw [qf l most u (by unfold yZ;omega) (by omega) d];rfl
 case range=>
  obtain⟨_,⟨tp,p,b⟩⟩:=he;refine(Tryz.strconv_Atoi_range_var (str l) (by rw [aP];omega) h tp p w b).mono ?_;rintro e g ⟨N,rfl,_,_,c⟩;exact⟨_,_,rfl,_,_,zS _ _ _ _,ac.yes rfl (j (tp:=tp) (x:=0) (N:=N) (fun v i=>by rw [i]at h;cases h) c)⟩
 obtain⟨⟨tp,p,b⟩,_⟩:=he;refine(Tryz.strconv_Atoi_syntax_var (str l) (by rw [aP];omega) (by rw [show(str l).data.toList=l from rfl,h];trivial) tp p w b).mono ?_;rintro e g ⟨N,rfl,_,_,c⟩;exact⟨_,_,rfl,_,_,zS _ _ _ _,ac.yes rfl (j (tp:=tp) (x:=0) (N:=N) (fun v i=>by rw [i]at h;cases h) c)⟩
noncomputable def jP:List Bs→Option (List Int)
 | []=>some []
 |w::r=>match iR w with
  |none=>none
  |some x=>(jP r).map (x:: ·)
theorem xV (l:List Bs):(if l.length=2 then jP l else none)=(kT l).map fun m=>[m.1,m.2]:=by
 match l with
 | []=>rfl
 | [_]=>rfl
 | [a,b]=>
  simp only [jP,kT];cases iR a<;>cases iR b<;>simp
 |_::_::_::_=>simp [kT]
theorem HR (l:List Bs):(if l.length=3 then jP l else none)=(qM l).map fun m=>[m.1,m.2.1,m.2.2]:=by
 match l with
 | []=>rfl
 | [_]=>rfl
 | [_,_]=>rfl
 | [a,b,c]=>
  simp only [jP,qM];cases iR a<;>cases iR b<;>cases iR c<;>simp
 |_::_::_::_::_=>simp [qM]
def Kp (o:Option (List Int)) (e:Ending) (w':World):Prop:=match o with
 |some ns=>∃a c,e= .returned (.tuple #[.slice a ns.length c,.bool true])∧Kd w' a ns
 |none=>e= .returned (.tuple #[.slice none 0 0,.bool false])
theorem jW (a:Option Addr) (c:Nat) (ws:List Bs) (many:Nat) (w:World) (h:dy w a ws) (hl:∀x∈ws,x.length≤1000000) (hn:ws.length≤1000000) (ht:EH w) (he:nZ w):
  CP 268 #[.slice a ws.length c,.int .i64 many] w fun e w'=>Kp (if ws.length=many then jP ws else none) e w'∧ZH w w':=by
 refine aV (yp a ws.length c many w) ?_;refine ac.mk ?_ ?_
 ·intro n;have n:(ws.length:Int)≠many:=by simpa using n
  rw [if_neg (by omega)];exact⟨rfl,Below.refl _ _⟩
 ·intro n;have n:(ws.length:Int)=many:=by simpa using n
  rw [if_pos (by omega)];intro I B;refine aZ (α:=Option Addr×Nat×Nat×List Int×World) ws.length
   (fun i x=>jP ws=(jP (ws.drop i)).map (x.2.2.2.1++ ·)∧x.2.2.2.2.ownsRow w.heap.size aT 1 (.slice x.1 x.2.1 x.2.2.1) x.2.1 (x.2.2.2.1.flatMap an)∧x.2.2.2.1.length=i∧ZH w x.2.2.2.2)
   (fun i x=>I [.int .i64 (i:Int),.slice x.1 x.2.1 x.2.2.1,.bool false,.slice none 0 0] x.2.2.2.2) (none,0,0,[],w) ?_ ?_ ?_
  ·refine⟨?_,cU _ _ _ _,rfl,Below.refl _ _⟩;cases hns:jP ws<;>simp [hns]
  ·rintro i r L ⟨o,m,p,E,F⟩ ⟨b,d,f,j⟩;dsimp only at b d f j;refine B _ _ _ _ _ _ _ _ _ (ac.yes (by simp;omega) ?_);obtain⟨x,t,_,q⟩:=(h.on j) i _ (XK r);refine ag.mk x t ⟨by omega,by omega,str ws[i],by simpa using q,?_⟩;refine(um ws[i] ox F (hl _ (List.getElem_mem r)) (ht.on j) (he.on j)).mono ?_;rintro e M ⟨rfl,l⟩;have g:=ae j l;rw [List.drop_eq_getElem_cons r]at b;have D:iR ws[i]=(hU ws[i] ox).map fun u=>(u:Int):=rfl;cases hp:hU ws[i] ox with
   |none=>
    refine⟨_,_,rfl,ac.yes rfl ⟨?_,g⟩⟩;rw [b,jP,D,hp];rfl
   |some u=>
    refine⟨_,_,rfl,ac.no rfl ?_⟩;rintro N rfl;have J:m=i:=by
     have:=(Rw.of_own (s:=⟨o,m,p⟩) d (fun _=>rfl) (by decide)).2;simp at this;omega
    obtain⟨y,z,G,K,k,H,_⟩:=iD (P:=Tryz.prog) bQ aT ov rt rfl (by decide) (aE d l) [.int .i64 (u:Int)] rfl (by intro v C;simp at C;subst C;rfl) (by omega) (by omega) g.size;refine⟨y,m+1,z,G,K,Ar.ok64 (by omega) (by omega) ?_⟩;refine L (y,m+1,z,E++ [(u:Int)],G) ⟨?_,?_,by simp [f],fB g (aE d l) H g.size⟩
    ·rw [b,jP,D,hp];dsimp only [Option.map_some];cases jP (ws.drop (i+1))<;>simp
    ·rw [List.flatMap_append];exact k
  ·rintro⟨o,m,p,E,F⟩ ⟨b,d,f,j⟩;dsimp only at b d f j;refine B _ _ _ _ _ _ _ _ _ (ac.no (by simp) ⟨?_,j⟩);rw [List.drop_length]at b;rw [b];obtain⟨A,l⟩:=Rw.of_own (s:=⟨o,m,p⟩) d (fun _=>rfl) (by decide);dsimp only at A l;simp only [jP,Option.map_some,List.append_nil];exact⟨o,p,by rw [l],A.ints⟩
abbrev tR:TypeId:=211
abbrev row1 (x:Sl) (s:am):ik:=⟨x,mw,2,s.merges.flatMap be⟩
abbrev row2 (x:Sl) (s:am):ik:=⟨x,dN,1,s.tokens.flatMap cz⟩
abbrev zI (x:Sl) (s:am):ik:=⟨x,nH,2,s.specials.flatMap aM⟩
abbrev z_ (x:Sl) (s:am):ik:=⟨x,Hu,3,s.classes.flatMap bS⟩
abbrev zY (x:Sl) (s:am):ik:=⟨x,KI,2,s.joins.flatMap be⟩
abbrev wA (x:bk) (s:am):List ik:=[row1 x.s1 s,row2 x.s2 s,zI x.s3 s,z_ x.s4 s,zY x.s5 s]
abbrev vW (x:bk) (k:Int):Array Value:=#[.bool x.ranked,x.s1.v,x.s2.v,x.s3.v,x.s4.v,x.s5.v,.int .i64 k]
structure eV (B b:Nat) (x:bk) (s:am) (k:Int) (w:World):Prop where
 hB:B≤b
 blk:w.heap[b]? =some (.cells (vW x k) tR (0,0))
 rk:x.ranked=s.ranked
 rows:dF w B (wA x s)
 off:∀r∈wA x s,r.blk≠some b
theorem eV.lt {B b:Nat} {x:bk} {s:am} {k:Int} {w:World} (h:eV B b x s k w):b<w.heap.size:=(XY.1 h.blk).1
theorem eV.on {B b:Nat} {x:bk} {s:am} {k:Int} {w w':World} (h:eV B b x s k w) (hb:ZH w w'):eV B b x s k w':=
 ⟨h.hB,by rw [hb.block b h.lt];exact h.blk,h.rk,h.rows.on hb,h.off⟩
theorem eV.spec {B b:Nat} {x:bk} {s:am} {k:Int} {w:World} (h:eV B b x s k w):cY w x s:=by
 have a:=Rw.of_own (h.rows.own (row1 x.s1 s) (by simp)) (fun _=>rfl) (Nat.succ_pos _);have c:=Rw.of_own (h.rows.own (row2 x.s2 s) (by simp)) (fun _=>rfl) (Nat.succ_pos _);have d:=Rw.of_own (h.rows.own (zI x.s3 s) (by simp)) (fun _=>rfl) (Nat.succ_pos _);have e:=Rw.of_own (h.rows.own (z_ x.s4 s) (by simp)) (fun _=>rfl) (Nat.succ_pos _);have f:=Rw.of_own (h.rows.own (zY x.s5 s) (by simp)) (fun _=>rfl) (Nat.succ_pos _);exact⟨h.rk,a.2,a.1,c.2,c.1,d.2,d.1,e.2,e.1,f.2,f.1⟩
def gY (B b:Nat) (o:Option am) (k:Int) (ok:Bool) (w':World):Prop:=match o with
 |some s'=>ok=true∧∃x',eV B b x' s' k w'
 |none=>ok=false
theorem Lk {B b:Nat} {x:bk} {s:am} {k:Int} {w:World} (h:eV B b x s k w) (hs:s.merges.length≤1000000) (m:Int×Int):
  ∃a' c' w3,(Builtin.append_ #[33,33] 33 #[x.s1.v,.slice (some (nb w)) 1 1]).run Tryz.prog (w.alloc (.cells (be m).toArray mw))= .ok (.slice a' (x.s1.n+1) c') w3∧
   (∃u,w3.cell? ((⟨b,0,none⟩:Addr).add 1)=some u)∧w3.frozen? ((⟨b,0,none⟩:Addr).add 1)=false∧
   ∀w4,w4=w3.setCell ((⟨b,0,none⟩:Addr).add 1) (.slice a' (x.s1.n+1) c')→eV B b {x with s1:=⟨a',x.s1.n+1,c'⟩} {s with merges:=s.merges++ [m]} k w4∧(∀w0,Below B w0 w→Below B w0 w4):=by
 have p:x.s1.n=s.merges.length:=h.spec.n1;obtain⟨a',c',w3,l,g,i,j⟩:=lS (P:=Tryz.prog) (pre:=[]) (post:=[row2 x.s2 s,zI x.s3 s,z_ x.s4 s,zY x.s5 s]) (r:=row1 x.s1 s) 1 h.blk (by simp) h.rows h.off h.hB 33 vS wk rfl (Nat.succ_pos _) (be m) rfl (by intro u f;simp [be]at f;rcases f with rfl |rfl<;>rfl) (by dsimp only;omega) (by dsimp only;omega)
 refine⟨a',c',w3,l,g,i,?_⟩;rintro w4 a;obtain⟨n,c,d,o⟩:=j w4 a;have e:s.merges.flatMap be++be m=(s.merges++ [m]).flatMap be:=by simp
 dsimp only at c d;rw [e]at c d;exact⟨⟨h.hB,n.trans rfl,h.rk,c,d⟩,o⟩
theorem Ly {B b:Nat} {x:bk} {s:am} {k:Int} {w:World} (h:eV B b x s k w) (hs:s.tokens.length≤1000000) (m:Bs):
  ∃a' c' w3,(Builtin.append_ #[eH,eH] eH #[x.s2.v,.slice (some (nb w)) 1 1]).run Tryz.prog (w.alloc (.cells (cz m).toArray dN))= .ok (.slice a' (x.s2.n+1) c') w3∧
   (∃u,w3.cell? ((⟨b,0,none⟩:Addr).add 2)=some u)∧w3.frozen? ((⟨b,0,none⟩:Addr).add 2)=false∧
   ∀w4,w4=w3.setCell ((⟨b,0,none⟩:Addr).add 2) (.slice a' (x.s2.n+1) c')→eV B b {x with s2:=⟨a',x.s2.n+1,c'⟩} {s with tokens:=s.tokens++ [m]} k w4∧(∀w0,Below B w0 w→Below B w0 w4):=by
 have p:x.s2.n=s.tokens.length:=h.spec.n2;obtain⟨a',c',w3,l,g,i,j⟩:=lS (P:=Tryz.prog) (pre:=[row1 x.s1 s]) (post:=[zI x.s3 s,z_ x.s4 s,zY x.s5 s]) (r:=row2 x.s2 s) 2 h.blk (by simp) h.rows h.off h.hB eH jc jk rfl (Nat.succ_pos _) (cz m) rfl (by intro u f;simp [cz]at f;rcases f with rfl;rfl) (by dsimp only;omega) (by dsimp only;omega);refine⟨a',c',w3,l,g,i,?_⟩;rintro w4 a;obtain⟨n,c,d,o⟩:=j w4 a;have e:s.tokens.flatMap cz++cz m=(s.tokens++ [m]).flatMap cz:=by simp
 dsimp only at c d;rw [e]at c d;exact⟨⟨h.hB,n.trans rfl,h.rk,c,d⟩,o⟩
theorem LE {B b:Nat} {x:bk} {s:am} {k:Int} {w:World} (h:eV B b x s k w) (hs:s.specials.length≤1000000) (m:Int×Bs):
  ∃a' c' w3,(Builtin.append_ #[25,25] 25 #[x.s3.v,.slice (some (nb w)) 1 1]).run Tryz.prog (w.alloc (.cells (aM m).toArray nH))= .ok (.slice a' (x.s3.n+1) c') w3∧
   (∃u,w3.cell? ((⟨b,0,none⟩:Addr).add 3)=some u)∧w3.frozen? ((⟨b,0,none⟩:Addr).add 3)=false∧
   ∀w4,w4=w3.setCell ((⟨b,0,none⟩:Addr).add 3) (.slice a' (x.s3.n+1) c')→eV B b {x with s3:=⟨a',x.s3.n+1,c'⟩} {s with specials:=s.specials++ [m]} k w4∧(∀w0,Below B w0 w→Below B w0 w4):=by
 have p:x.s3.n=s.specials.length:=h.spec.n3;obtain⟨a',c',w3,l,g,i,j⟩:=lS (P:=Tryz.prog) (pre:=[row1 x.s1 s,row2 x.s2 s]) (post:=[z_ x.s4 s,zY x.s5 s]) (r:=zI x.s3 s) 3 h.blk (by simp) h.rows h.off h.hB 25 tw xb rfl (Nat.succ_pos _) (aM m) rfl (by intro u f;simp [aM]at f;rcases f with rfl |rfl<;>rfl) (by dsimp only;omega) (by dsimp only;omega)
 refine⟨a',c',w3,l,g,i,?_⟩;rintro w4 a;obtain⟨n,c,d,o⟩:=j w4 a;have e:s.specials.flatMap aM++aM m=(s.specials++ [m]).flatMap aM:=by simp
 dsimp only at c d;rw [e]at c d;exact⟨⟨h.hB,n.trans rfl,h.rk,c,d⟩,o⟩
theorem LB {B b:Nat} {x:bk} {s:am} {k:Int} {w:World} (h:eV B b x s k w) (hs:s.classes.length≤1000000) (m:Int×Int×Int):
  ∃a' c' w3,(Builtin.append_ #[23,23] 23 #[x.s4.v,.slice (some (nb w)) 1 1]).run Tryz.prog (w.alloc (.cells (bS m).toArray Hu))= .ok (.slice a' (x.s4.n+1) c') w3∧
   (∃u,w3.cell? ((⟨b,0,none⟩:Addr).add 4)=some u)∧w3.frozen? ((⟨b,0,none⟩:Addr).add 4)=false∧
   ∀w4,w4=w3.setCell ((⟨b,0,none⟩:Addr).add 4) (.slice a' (x.s4.n+1) c')→eV B b {x with s4:=⟨a',x.s4.n+1,c'⟩} {s with classes:=s.classes++ [m]} k w4∧(∀w0,Below B w0 w→Below B w0 w4):=by
 have p:x.s4.n=s.classes.length:=h.spec.n4;obtain⟨a',c',w3,l,g,i,j⟩:=lS (P:=Tryz.prog) (pre:=[row1 x.s1 s,row2 x.s2 s,zI x.s3 s]) (post:=[zY x.s5 s]) (r:=z_ x.s4 s) 4 h.blk (by simp) h.rows h.off h.hB 23 xO Ed rfl (Nat.succ_pos _) (bS m) rfl (by intro u f;simp [bS]at f;rcases f with rfl |rfl |rfl<;>rfl) (by dsimp only;omega) (by dsimp only;omega)
 refine⟨a',c',w3,l,g,i,?_⟩;rintro w4 a;obtain⟨n,c,d,o⟩:=j w4 a;have e:s.classes.flatMap bS++bS m=(s.classes++ [m]).flatMap bS:=by simp
 dsimp only at c d;rw [e]at c d;exact⟨⟨h.hB,n.trans rfl,h.rk,c,d⟩,o⟩
theorem KS {B b:Nat} {x:bk} {s:am} {k:Int} {w:World} (h:eV B b x s k w) (hs:s.joins.length≤1000000) (m:Int×Int):
  ∃a' c' w3,(Builtin.append_ #[24,24] 24 #[x.s5.v,.slice (some (nb w)) 1 1]).run Tryz.prog (w.alloc (.cells (be m).toArray KI))= .ok (.slice a' (x.s5.n+1) c') w3∧
   (∃u,w3.cell? ((⟨b,0,none⟩:Addr).add 5)=some u)∧w3.frozen? ((⟨b,0,none⟩:Addr).add 5)=false∧
   ∀w4,w4=w3.setCell ((⟨b,0,none⟩:Addr).add 5) (.slice a' (x.s5.n+1) c')→eV B b {x with s5:=⟨a',x.s5.n+1,c'⟩} {s with joins:=s.joins++ [m]} k w4∧(∀w0,Below B w0 w→Below B w0 w4):=by
 have p:x.s5.n=s.joins.length:=h.spec.n5;obtain⟨a',c',w3,l,g,i,j⟩:=lS (P:=Tryz.prog) (pre:=[row1 x.s1 s,row2 x.s2 s,zI x.s3 s,z_ x.s4 s]) (post:=[]) (r:=zY x.s5 s) 5 h.blk (by simp) h.rows h.off h.hB 24 wZ Ep rfl (Nat.succ_pos _) (be m) rfl (by intro u f;simp [be]at f;rcases f with rfl |rfl<;>rfl) (by dsimp only;omega) (by dsimp only;omega)
 refine⟨a',c',w3,l,g,i,?_⟩;rintro w4 a;obtain⟨n,c,d,o⟩:=j w4 a;have e:s.joins.flatMap be++be m=(s.joins++ [m]).flatMap be:=by simp
 dsimp only at c d;rw [e]at c d;exact⟨⟨h.hB,n.trans rfl,h.rk,c,d⟩,o⟩
theorem uJ (B b:Nat) (x:bk) (s:am) (k:Int) (a:Option Addr) (c:Nat) (ws:List Bs) (w:World) (hR:eV B b x s k w) (hs:gW s) (h:dy w a ws) (hl:∀x∈ws,x.length≤1000000) (hn:ws.length≤1000000) (ht:EH w) (he:nZ w):
  CP 234 #[.pointer (some ⟨b,0,none⟩),.slice a ws.length c] w fun e w'=>∃ok,e= .returned (.bool ok)∧gY B b ((kT ws).map fun m=>{s with merges:=s.merges++ [m]}) k ok w'∧Below B w w':=by
 refine aV (C_ (some ⟨b,0,none⟩) a ws.length c w) ?_;have o:B≤w.heap.size:=XW hR.hB (Nat.le_of_lt hR.lt);refine(jW a c ws 2 w h hl hn ht he).mono ?_;rintro e n ⟨l,g⟩;rw [xV]at l;have i:Below B w n:=g.mono o;cases hm:kT ws with
 |none=>
  rw [hm]at l;subst l;refine⟨_,_,_,_,rfl,?_⟩;intro J p;exact ac.no rfl (p n ⟨false,rfl,rfl,i⟩)
 |some m=>
  rw [hm]at l;obtain⟨Q,R,rfl,d⟩:=l;refine⟨_,_,_,_,rfl,?_⟩;intro J p;refine ac.yes rfl ?_;rintro S rfl;have f:eV B b x s k n.drew:=(hR.on g).on ((Below.refl _ _).drew);have I:([m.1,m.2]:List Int).length=2:=rfl;refine ag.mk ⟨b,0,none⟩ rfl ⟨_,_,_,(aF (j:=1) f.blk).trans rfl,?_⟩;obtain⟨N,v,A,r⟩:=d 0 _ rfl;obtain⟨O,y,C,t⟩:=d 1 _ rfl;refine ag.mk N v ⟨by simp,by simp,m.1,r,?_⟩;refine ag.mk O y ⟨by simp,by simp,m.2,t,?_⟩;rintro T rfl;have q:=f.on (ah n.drew (.cells (be m).toArray mw));refine⟨⟨(aF (j:=1) q.blk).trans rfl,trivial⟩,?_⟩;obtain⟨E,F,P,K,u,G,H⟩:=Lk f hs.1 m;refine⟨E,_,F,P,K,?_⟩;refine ag.mk ⟨b,0,none⟩ rfl ⟨rfl,u,G,?_⟩;intro D z;obtain⟨L,M⟩:=H D z;exact p D ⟨true,rfl,⟨rfl,_,L⟩,M w i.drew⟩
theorem uE (B b:Nat) (x:bk) (s:am) (k:Int) (a:Option Addr) (c:Nat) (ws:List Bs) (w:World) (hR:eV B b x s k w) (hs:gW s) (h:dy w a ws) (hl:∀x∈ws,x.length≤1000000) (hn:ws.length≤1000000) (ht:EH w) (he:nZ w):
  CP 237 #[.pointer (some ⟨b,0,none⟩),.slice a ws.length c] w fun e w'=>∃ok,e= .returned (.bool ok)∧gY B b ((qM ws).map fun m=>{s with classes:=s.classes++ [m]}) k ok w'∧Below B w w':=by
 refine aV (ze (some ⟨b,0,none⟩) a ws.length c w) ?_;have o:B≤w.heap.size:=XW hR.hB (Nat.le_of_lt hR.lt);refine(jW a c ws 3 w h hl hn ht he).mono ?_;rintro e n ⟨l,g⟩;rw [HR]at l;have i:Below B w n:=g.mono o;cases hm:qM ws with
 |none=>
  rw [hm]at l;subst l;refine⟨_,_,_,_,rfl,?_⟩;intro J p;exact ac.no rfl (p n ⟨false,rfl,rfl,i⟩)
 |some m=>
  rw [hm]at l;obtain⟨U,V,rfl,d⟩:=l;refine⟨_,_,_,_,rfl,?_⟩;intro J p;refine ac.yes rfl ?_;rintro W rfl;have f:eV B b x s k n.drew:=(hR.on g).on ((Below.refl _ _).drew);have M:([m.1,m.2.1,m.2.2]:List Int).length=3:=rfl;refine ag.mk ⟨b,0,none⟩ rfl ⟨_,_,_,(aF (j:=4) f.blk).trans rfl,?_⟩;obtain⟨Q,y,D,r⟩:=d 0 _ rfl;obtain⟨R,z,E,t⟩:=d 1 _ rfl;obtain⟨S,A,F,u⟩:=d 2 _ rfl;refine ag.mk Q y ⟨by simp,by simp,m.1,r,?_⟩;refine ag.mk R z ⟨by simp,by simp,m.2.1,t,?_⟩;refine ag.mk S A ⟨by simp,by simp,m.2.2,u,?_⟩;rintro X rfl;have q:=f.on (ah n.drew (.cells (bS m).toArray Hu));refine⟨⟨(aF (j:=4) q.blk).trans rfl,trivial⟩,?_⟩;obtain⟨H,I,T,N,v,K,L⟩:=LB f hs.2.2.2.1 m;refine⟨H,_,I,T,N,?_⟩;refine ag.mk ⟨b,0,none⟩ rfl ⟨rfl,v,K,?_⟩;intro G C;obtain⟨O,P⟩:=L G C;exact p G ⟨true,rfl,⟨rfl,_,O⟩,P w i.drew⟩
theorem xj (B b:Nat) (x:bk) (s:am) (k:Int) (a:Option Addr) (c:Nat) (ws:List Bs) (w:World) (hR:eV B b x s k w) (hs:gW s) (h:dy w a ws) (hl:∀x∈ws,x.length≤1000000) (hn:ws.length≤1000000) (ht:EH w) (he:nZ w):
  CP 238 #[.pointer (some ⟨b,0,none⟩),.slice a ws.length c] w fun e w'=>∃ok,e= .returned (.bool ok)∧gY B b ((kT ws).map fun m=>{s with joins:=s.joins++ [m]}) k ok w'∧Below B w w':=by
 refine aV (AS (some ⟨b,0,none⟩) a ws.length c w) ?_;have o:B≤w.heap.size:=XW hR.hB (Nat.le_of_lt hR.lt);refine(jW a c ws 2 w h hl hn ht he).mono ?_;rintro e n ⟨l,g⟩;rw [xV]at l;have i:Below B w n:=g.mono o;cases hm:kT ws with
 |none=>
  rw [hm]at l;subst l;refine⟨_,_,_,_,rfl,?_⟩;intro J p;exact ac.no rfl (p n ⟨false,rfl,rfl,i⟩)
 |some m=>
  rw [hm]at l;obtain⟨Q,R,rfl,d⟩:=l;refine⟨_,_,_,_,rfl,?_⟩;intro J p;refine ac.yes rfl ?_;rintro S rfl;have f:eV B b x s k n.drew:=(hR.on g).on ((Below.refl _ _).drew);have I:([m.1,m.2]:List Int).length=2:=rfl;refine ag.mk ⟨b,0,none⟩ rfl ⟨_,_,_,(aF (j:=5) f.blk).trans rfl,?_⟩;obtain⟨N,v,A,r⟩:=d 0 _ rfl;obtain⟨O,y,C,t⟩:=d 1 _ rfl;refine ag.mk N v ⟨by simp,by simp,m.1,r,?_⟩;refine ag.mk O y ⟨by simp,by simp,m.2,t,?_⟩;rintro T rfl;have q:=f.on (ah n.drew (.cells (be m).toArray KI));refine⟨⟨(aF (j:=5) q.blk).trans rfl,trivial⟩,?_⟩;obtain⟨E,F,P,K,u,G,H⟩:=KS f hs.2.2.2.2 m;refine⟨E,_,F,P,K,?_⟩;refine ag.mk ⟨b,0,none⟩ rfl ⟨rfl,u,G,?_⟩;intro D z;obtain⟨L,M⟩:=H D z;exact p D ⟨true,rfl,⟨rfl,_,L⟩,M w i.drew⟩
theorem ur (B b:Nat) (x:bk) (s:am) (k:Int) (a:Option Addr) (c:Nat) (ws:List Bs) (w:World) (hR:eV B b x s k w) (hs:gW s) (h:dy w a ws) (hl:∀x∈ws,x.length≤1000000) (hn:ws.length≤1000000):
  CP 235 #[.pointer (some ⟨b,0,none⟩),.slice a ws.length c] w fun e w'=>∃ok,e= .returned (.bool ok)∧gY B b ((He ws).map fun m=>{s with tokens:=s.tokens++ [m]}) k ok w'∧Below B w w':=by
 refine aV (CH (some ⟨b,0,none⟩) a ws.length c w) ?_;have y:B≤w.heap.size:=XW hR.hB (Nat.le_of_lt hR.lt);refine ac.mk ?_ ?_
 ·intro f;have f:(ws.length:Int)≠1:=by simpa using f
  refine⟨false,rfl,?_,Below.refl _ _⟩
  match ws,f with
  | [],_=>rfl
  |_::_::_,_=>rfl
  | [_],f=>simp at f
 ·intro f;have f:(ws.length:Int)=1:=by simpa using f
  match ws,f,h,hl with
  | [t],_,h,hl=>
   obtain⟨p,K,_,A⟩:=h 0 _ rfl;refine ag.mk p K ⟨by simp,by simp,str t,A,?_⟩;have N:=hl t (by simp);refine(uf t w (by omega)).mono ?_;rintro e r ⟨rfl,i⟩;have v:Below B w r:=i.mono y;have l:=hR.on i;have g:∀(o:Option Bs) (u:Bs) (q:Bool),(∀m,o=some m→u=m∧q=true)→(o=none→q=false)→
    ag (some ⟨b,0,none⟩) (fun n=>
     ∃lA_2:Option Addr,∃lN_3:Nat,∃lC_4:Nat,r.cell? ((n.add 0).add 2)=some (Value.slice lA_2 lN_3 lC_4)∧
     ∀D:World,D=r.alloc (.cells #[Value.string (str u)] dN)→
     ∃lA_5:Option Addr,∃lN_6:Nat,∃lC_7:Nat,∃w3:World,(Builtin.append_ #[eH,eH] eH #[Value.slice lA_2 lN_3 lC_4,Value.slice (some (nb r)) 1 1]).run Tryz.prog D= .ok (Value.slice lA_5 lN_6 lC_7) w3∧
     ag (some ⟨b,0,none⟩) (fun d=>
     (Value.slice lA_5 lN_6 lC_7).oneCell'=true∧(∃u,w3.cell? ((d.add 0).add 2)=some u)∧w3.frozen? ((d.add 0).add 2)=false∧
     ∀w4:World,w4=(w3.setCell ((d.add 0).add 2) (Value.slice lA_5 lN_6 lC_7))→
     ∃ok,Ending.returned (Value.bool q)= .returned (.bool ok)∧gY B b (o.map fun m=>{s with tokens:=s.tokens++ [m]}) k ok w4∧Below B w w4)):=by
    intro o u q G H;refine ag.mk ⟨b,0,none⟩ rfl ⟨_,_,_,(aF (j:=2) l.blk).trans rfl,?_⟩;rintro D rfl;obtain⟨E,F,Q,M,z,I,J⟩:=Ly l hs.2.1 u;refine⟨E,_,F,Q,M,?_⟩;refine ag.mk ⟨b,0,none⟩ rfl ⟨rfl,z,I,?_⟩;intro R C;obtain⟨O,P⟩:=J R C;refine⟨q,rfl,?_,P w v⟩;cases o with
    |none=>exact H rfl
    |some m=>
     obtain⟨rfl,L⟩:=G m rfl;exact⟨L,_,O⟩
   show ∃r0:ByteArray,∃r1:Bool,_;cases hu:jA t with
   |none=>exact⟨str [],false,rfl,g _ [] false (by simp [He,hu]) (fun _=>rfl)⟩
   |some m=>exact⟨str m,true,rfl,g _ m true (by simp [He,hu]) (by simp [He,hu])⟩
theorem rj (B b:Nat) (x:bk) (s:am) (k:Int) (a:Option Addr) (c:Nat) (ws:List Bs) (w:World) (hR:eV B b x s k w) (hs:gW s) (h:dy w a ws) (hl:∀x∈ws,x.length≤1000000) (hn:ws.length≤1000000) (ht:EH w) (he:nZ w):
  CP 236 #[.pointer (some ⟨b,0,none⟩),.slice a ws.length c] w fun e w'=>∃ok,e= .returned (.bool ok)∧gY B b ((lJ ws).map fun m=>{s with specials:=s.specials++ [m]}) k ok w'∧Below B w w':=by
 refine aV (C8 (some ⟨b,0,none⟩) a ws.length c w) ?_;have L:B≤w.heap.size:=XW hR.hB (Nat.le_of_lt hR.lt);refine ac.mk ?_ ?_
 ·intro i;have i:(ws.length:Int)≠2:=by simpa using i
  refine⟨false,rfl,?_,Below.refl _ _⟩
  match ws,i with
  | [],_=>rfl
  | [_],_=>rfl
  |_::_::_::_,_=>rfl
  | [_,_],i=>simp at i
 ·intro i;have i:(ws.length:Int)=2:=by simpa using i
  match ws,i,h,hl with
  | [t,t2],_,h,hl=>
   obtain⟨p,H,_,N⟩:=h 0 _ rfl;refine ag.mk p H ⟨by simp,by simp,str t,N,?_⟩;have htl:=hl t (by simp);refine(um t ox w (by omega) ht he).mono ?_;rintro e R ⟨rfl,z⟩;obtain⟨p2,O,_,C⟩:=(h.on z) 1 _ rfl;have T:iR t=(hU t ox).map fun u=>(u:Int):=rfl;have o:∀(n:Int) (F:Bool),(iR t=some n∧F=true)∨(iR t=none∧F=false)→
     ag a (fun E=>
      (0:Int)≤1∧1< (([t,t2].length:Nat):Int)∧
      ∃s_2:ByteArray,R.cell? (E.add ((1:Int).toNat*1))=some (Value.string s_2)∧
      CP 269 #[Value.string s_2] R (fun W r=>
      ∃r0_3:ByteArray,∃r1_4:Bool,W= .returned (Value.tuple #[Value.string r0_3,Value.bool r1_4])∧
      ag (some ⟨b,0,none⟩) (fun g=>
      ∃lA_6:Option Addr,∃lN_7:Nat,∃lC_8:Nat,r.cell? ((g.add 0).add 3)=some (Value.slice lA_6 lN_7 lC_8)∧
      ∀v:World,v=r.alloc (.cells #[Value.int .i64 n,Value.string r0_3] nH)→
      ∃lA_9:Option Addr,∃lN_10:Nat,∃lC_11:Nat,∃w4:World,(Builtin.append_ #[25,25] 25 #[Value.slice lA_6 lN_7 lC_8,Value.slice (some (nb r)) 1 1]).run Tryz.prog v= .ok (Value.slice lA_9 lN_10 lC_11) w4∧
      ag (some ⟨b,0,none⟩) (fun d=>
      (Value.slice lA_9 lN_10 lC_11).oneCell'=true∧(∃u,w4.cell? ((d.add 0).add 3)=some u)∧w4.frozen? ((d.add 0).add 3)=false∧
      ∀f:World,f=(w4.setCell ((d.add 0).add 3) (Value.slice lA_9 lN_10 lC_11))→
      ac F
       (∃ok,Ending.returned (Value.bool r1_4)= .returned (.bool ok)∧gY B b ((lJ [t,t2]).map fun m=>{s with specials:=s.specials++ [m]}) k ok f∧Below B w f)
       (∃ok,Ending.returned (Value.bool false)= .returned (.bool ok)∧gY B b ((lJ [t,t2]).map fun m=>{s with specials:=s.specials++ [m]}) k ok f∧Below B w f))))):=by
    intro n F Z;refine ag.mk p2 O ⟨by simp,by simp,str t2,C,?_⟩;have S:=hl t2 (by simp);refine(uf t2 R (by omega)).mono ?_;rintro e r ⟨rfl,J⟩;have l:=ae z J;have K:Below B w r:=l.mono L;have A:=hR.on l;have y:∀(u:Bs) (q:Bool),(jA t2=some u∧q=true)∨(jA t2=none∧q=false)→
      ag (some ⟨b,0,none⟩) (fun g=>
      ∃lA_6:Option Addr,∃lN_7:Nat,∃lC_8:Nat,r.cell? ((g.add 0).add 3)=some (Value.slice lA_6 lN_7 lC_8)∧
      ∀v:World,v=r.alloc (.cells #[Value.int .i64 n,Value.string (str u)] nH)→
      ∃lA_9:Option Addr,∃lN_10:Nat,∃lC_11:Nat,∃w4:World,(Builtin.append_ #[25,25] 25 #[Value.slice lA_6 lN_7 lC_8,Value.slice (some (nb r)) 1 1]).run Tryz.prog v= .ok (Value.slice lA_9 lN_10 lC_11) w4∧
      ag (some ⟨b,0,none⟩) (fun d=>
      (Value.slice lA_9 lN_10 lC_11).oneCell'=true∧(∃u,w4.cell? ((d.add 0).add 3)=some u)∧w4.frozen? ((d.add 0).add 3)=false∧
      ∀f:World,f=(w4.setCell ((d.add 0).add 3) (Value.slice lA_9 lN_10 lC_11))→
      ac F
       (∃ok,Ending.returned (Value.bool q)= .returned (.bool ok)∧gY B b ((lJ [t,t2]).map fun m=>{s with specials:=s.specials++ [m]}) k ok f∧Below B w f)
       (∃ok,Ending.returned (Value.bool false)= .returned (.bool ok)∧gY B b ((lJ [t,t2]).map fun m=>{s with specials:=s.specials++ [m]}) k ok f∧Below B w f))):=by
     intro u q P;refine ag.mk ⟨b,0,none⟩ rfl ⟨_,_,_,(aF (j:=3) A.blk).trans rfl,?_⟩;rintro v rfl;obtain⟨U,V,f,hr,M,X,Y⟩:=LE A hs.2.2.1 (n,u);refine⟨U,_,V,f,hr,?_⟩;refine ag.mk ⟨b,0,none⟩ rfl ⟨rfl,M,X,?_⟩;intro w6 Q;obtain⟨k1,k2⟩:=Y w6 Q;have D:=k2 w K;rcases Z with⟨G,rfl⟩ |⟨G,rfl⟩
     ·refine ac.yes rfl ⟨q,rfl,?_,D⟩;rcases P with⟨I,rfl⟩ |⟨I,rfl⟩
      ·simp only [lJ,G,I];exact⟨rfl,_,k1⟩
      ·simp only [lJ,G,I];rfl
     ·refine ac.no rfl ⟨false,rfl,?_,D⟩;simp only [lJ,G];rfl
    cases hu:jA t2 with
    |none=>exact⟨str [],false,rfl,y [] false (.inr ⟨hu,rfl⟩)⟩
    |some m=>exact⟨str m,true,rfl,y m true (.inl ⟨hu,rfl⟩)⟩
   cases H:hU t ox with
   |none=>exact⟨0,false,rfl,o 0 false (.inr ⟨by rw [T,H];rfl,rfl⟩)⟩
   |some u=>exact⟨(u:Int),true,rfl,o u true (.inl ⟨by rw [T,H];rfl,rfl⟩)⟩
theorem ri {w:World} {a p:Addr} {u:Value} (h:p.block≠a.block):(w.setCell a u).cell? p=w.cell? p:=by
 unfold World.cell?;rw [ar h]
noncomputable def vD (l:List Bs):Option Bool:=if l= [xn]then some true else if l= [oW]then some false else none
theorem wD (B b:Nat) (x:bk) (s:am) (k:Int) (a:Option Addr) (c:Nat) (ws:List Bs) (w:World) (hR:eV B b x s k w) (h:dy w a ws) (hoff:∀p,a=some p→p.block≠b) (hn:ws.length≤1000000):
  CP 233 #[.pointer (some ⟨b,0,none⟩),.slice a ws.length c] w fun e w'=>∃ok,e= .returned (.bool ok)∧gY B b ((vD ws).map fun q=>{s with ranked:=q}) k ok w'∧Below B w w':=by
 refine aV (C0 (some ⟨b,0,none⟩) a ws.length c w) ?_;have r:∀q:Bool,∀m,m=w.setCell (((⟨b,0,none⟩:Addr).add 0).add 0) (.bool q)→eV B b {x with ranked:=q} {s with ranked:=q} k m∧Below B w m:=by
  intro q m f;rw [aC]at f;subst f;refine⟨⟨hR.hB,(bu (j:=0) hR.blk _).trans rfl,rfl,hR.rows.setCell _ _ (by rw [ay];exact hR.off),hR.off⟩,bv (Below.refl _ _) hR.hB _⟩
 have A:w.cell? (((⟨b,0,none⟩:Addr).add 0).add 0)=some (.bool x.ranked):=by rw [aC];exact(aF (j:=0) hR.blk).trans rfl
 have D:w.frozen? (((⟨b,0,none⟩:Addr).add 0).add 0)=false:=by rw [aC];exact bc hR.blk
 refine ac.mk ?_ ?_
 ·intro l;have d:(ws.length:Int)=1:=by simpa using l
  match ws,d,l,h with
  | [t],_,l,h=>
   obtain⟨p,u,_,o⟩:=h 0 _ rfl;have v:=hoff p u;refine ag.mk p u ⟨by simp,by simp,str t,o,?_⟩;refine ag.mk ⟨b,0,none⟩ rfl ⟨rfl,⟨_,A⟩,D,?_⟩;have C:((str t).toList==(⟨#[114,97,110,107,115]⟩:ByteArray).toList)=decide (t=xn):=by rw [show(⟨#[114,97,110,107,115]⟩:ByteArray)=str xn from rfl,eW]
   have E:((str t).toList==(⟨#[109,101,114,103,101,115]⟩:ByteArray).toList)=decide (t=oW):=by rw [show(⟨#[109,101,114,103,101,115]⟩:ByteArray)=str oW from rfl,eW]
   rw [C];intro m f;obtain⟨i,g⟩:=r _ m f;have d:m.cell? (p.add 0)=some (.string (str t)):=by
    rw [f,ri (by rw [ay,ay,ay];exact v)];exact o
   refine ac.yes l (ag.mk p u ⟨by simp,by simp,str t,d,?_⟩);(try dsimp only);rw [C];refine ac.mk ?_ ?_
   ·intro n;have n:=XQ n;subst n;refine⟨true,rfl,?_,g⟩;unfold vD;rw [if_pos rfl];exact⟨rfl,_,i⟩
   ·intro n;have y:=XX n;refine ag.mk p u ⟨by simp,by simp,str t,d,?_⟩;(try dsimp only);rw [E];refine⟨_,rfl,?_,g⟩;unfold vD;rw [if_neg (by simpa using y)];by_cases hm:t=oW
    ·rw [if_pos (by simpa using hm)];rw [n]at i;exact⟨by simpa using hm,_,i⟩
    ·rw [if_neg (by simpa using hm)];exact XZ hm
 ·intro l;have d:(ws.length:Int)≠1:=by simpa using l
  refine ag.mk ⟨b,0,none⟩ rfl ⟨rfl,⟨_,A⟩,D,?_⟩;intro F z;obtain⟨i,g⟩:=r _ F z;refine ac.no l ⟨false,rfl,?_,g⟩;unfold vD;rw [if_neg (by rintro rfl;simp at d),if_neg (by rintro rfl;simp at d)];rfl
def AP (B b:Nat) (o:Option (am×Nat)) (k j:Int) (ok:Bool) (w':World):Prop:=match o with
 |some (s',j')=>ok=true∧j=j'∧∃x',eV B b x' s' k w'
 |none=>ok=false
theorem fJ {B b:Nat} {o:Option am} {k:Int} {n:Nat} {ok:Bool} {w':World} (h:gY B b o k ok w'):AP B b (o.map fun s=>(s,n)) k n ok w':=by
 cases o with
 |none=>exact h
 |some s=>exact⟨h.1,rfl,h.2⟩
theorem Eg (s:am) (first:Bs) (l:List Bs):
  uI s (first::l)=if first=wG then((vD l).map fun q=>{s with ranked:=q}).map fun s=>(s,0)else if first=wU then((kT l).map fun m=>{s with merges:=s.merges++ [m]}).map fun s=>(s,1)
   else if first=wv then((He l).map fun m=>{s with tokens:=s.tokens++ [m]}).map fun s=>(s,1)else if first=jH then((lJ l).map fun m=>{s with specials:=s.specials++ [m]}).map fun s=>(s,2)
   else if first=pp then((qM l).map fun m=>{s with classes:=s.classes++ [m]}).map fun s=>(s,3)else if first=Gs then((kT l).map fun m=>{s with joins:=s.joins++ [m]}).map fun s=>(s,4)else none:=by
 unfold uI vD;simp only [Option.map_map];split
 ·split
  ·rfl
  ·split<;>rfl
 ·rfl
theorem wd (B b:Nat) (x:bk) (s:am) (k:Int) (first:Bs) (a:Option Addr) (c:Nat) (ws:List Bs) (w:World) (hR:eV B b x s k w) (hs:gW s) (h:dy w a ws) (hoff:∀p,a=some p→p.block≠b) (hl:∀x∈ws,x.length≤1000000) (hn:ws.length≤1000000) (ht:EH w) (he:nZ w):
  CP 187 #[.pointer (some ⟨b,0,none⟩),.string (str first),.slice a ws.length c] w fun e w'=>∃(j:Int) (ok:Bool),e= .returned (.tuple #[.int .i64 j,.bool ok])∧AP B b (uI s (first::ws)) k j ok w'∧Below B w w':=by
 refine aV (Bj (some ⟨b,0,none⟩) (str first) a ws.length c w) ?_;rw [Eg];have l:((str first).toList==(⟨#[118,111,99,97,98]⟩:ByteArray).toList)=decide (first=wG):=by rw [show(⟨#[118,111,99,97,98]⟩:ByteArray)=str wG from rfl,eW]
 have m:((str first).toList==(⟨#[109,101,114,103,101]⟩:ByteArray).toList)=decide (first=wU):=by rw [show(⟨#[109,101,114,103,101]⟩:ByteArray)=str wU from rfl,eW]
 have o:((str first).toList==(⟨#[116,111,107,101,110]⟩:ByteArray).toList)=decide (first=wv):=by rw [show(⟨#[116,111,107,101,110]⟩:ByteArray)=str wv from rfl,eW]
 have q:((str first).toList==(⟨#[115,112,101,99,105,97,108]⟩:ByteArray).toList)=decide (first=jH):=by rw [show(⟨#[115,112,101,99,105,97,108]⟩:ByteArray)=str jH from rfl,eW]
 have r:((str first).toList==(⟨#[99,108,97,115,115]⟩:ByteArray).toList)=decide (first=pp):=by rw [show(⟨#[99,108,97,115,115]⟩:ByteArray)=str pp from rfl,eW]
 have t:((str first).toList==(⟨#[106,111,105,110]⟩:ByteArray).toList)=decide (first=Gs):=by rw [show(⟨#[106,111,105,110]⟩:ByteArray)=str Gs from rfl,eW]
 refine ac.mk ?_ ?_
 ·intro d;rw [l]at d;rw [if_pos (XQ d)];refine(wD B b x s k a c ws w hR h hoff hn).mono ?_;rintro e i ⟨ok,rfl,g,f⟩;exact⟨ok,rfl,_,ok,rfl,fJ (n:=0) g,f⟩
 intro d;rw [l]at d;rw [if_neg (XX d)];refine ac.mk ?_ ?_
 ·intro d;rw [m]at d;rw [if_pos (XQ d)];refine(uJ B b x s k a c ws w hR hs h hl hn ht he).mono ?_;rintro e i ⟨ok,rfl,g,f⟩;exact⟨ok,rfl,_,ok,rfl,fJ (n:=1) g,f⟩
 intro d;rw [m]at d;rw [if_neg (XX d)];refine ac.mk ?_ ?_
 ·intro d;rw [o]at d;rw [if_pos (XQ d)];refine(ur B b x s k a c ws w hR hs h hl hn).mono ?_;rintro e i ⟨ok,rfl,g,f⟩;exact⟨ok,rfl,_,ok,rfl,fJ (n:=1) g,f⟩
 intro d;rw [o]at d;rw [if_neg (XX d)];refine ac.mk ?_ ?_
 ·intro d;rw [q]at d;rw [if_pos (XQ d)];refine(rj B b x s k a c ws w hR hs h hl hn ht he).mono ?_;rintro e i ⟨ok,rfl,g,f⟩;exact⟨ok,rfl,_,ok,rfl,fJ (n:=2) g,f⟩
 intro d;rw [q]at d;rw [if_neg (XX d)];refine ac.mk ?_ ?_
 ·intro d;rw [r]at d;rw [if_pos (XQ d)];refine(uE B b x s k a c ws w hR hs h hl hn ht he).mono ?_;rintro e i ⟨ok,rfl,g,f⟩;exact⟨ok,rfl,_,ok,rfl,fJ (n:=3) g,f⟩
 intro d;rw [r]at d;rw [if_neg (XX d)];refine ac.mk ?_ ?_
 ·intro d;rw [t]at d;rw [if_pos (XQ d)];refine(xj B b x s k a c ws w hR hs h hl hn ht he).mono ?_;rintro e i ⟨ok,rfl,g,f⟩;exact⟨ok,rfl,_,ok,rfl,fJ (n:=4) g,f⟩
 intro d;rw [t]at d;rw [if_neg (XX d)];exact⟨0,false,rfl,rfl,Below.refl _ _⟩
theorem tS (c:UInt8) (l:Bs):∀w∈cH c l,w.length≤l.length:=by
 induction l with
 |nil=>intro w a;simp [cH]at a;subst a;simp
 |cons b l ih=>
  intro w a;simp only [cH]at a;split at a
  ·rcases List.mem_cons.1 a with e |e
   ·subst e;simp
   ·have:=ih w e;simp;omega
  ·cases hc:cH c l with
   |nil=>exact absurd hc (w_ c l)
   |cons x r=>
    rw [hc]at a ih;rcases List.mem_cons.1 a with e |e
    ·subst e;have:=ih x (by simp);simp;omega
    ·have:=ih w (by simp [e]);simp;omega
theorem rT (c:UInt8) (l:Bs):(cH c l).length≤l.length+1:=by
 induction l with
 |nil=>simp [cH]
 |cons b l ih=>
  simp only [cH];split
  ·simp;omega
  ·cases hc:cH c l with
   |nil=>simp
   |cons x r=>rw [hc]at ih;simp at ih⊢;omega
def Ig (B b:Nat) (o:Option (am×Nat)) (ok:Bool) (w':World):Prop:=match o with
 |some (s',j)=>ok=true∧∃x',eV B b x' s' j w'
 |none=>ok=false
theorem xf (B b:Nat) (x:bk) (s:am) (k n:Nat) (line:Bs) (w:World) (hR:eV B b x s k w) (hs:gW s) (hl:line.length≤100000) (ht:EH w) (he:nZ w) (hm:Mx w):
  CP 129 #[.pointer (some ⟨b,0,none⟩),.int .i64 n,.string (str line)] w fun e w'=>∃ok:Bool,e= .returned (.bool ok)∧Ig B b (gz s k n line) ok w'∧Below B w w':=by
 refine aV (AW (some ⟨b,0,none⟩) n (str line) w) ?_;have S:B≤w.heap.size:=XW hR.hB (Nat.le_of_lt hR.lt);refine(Ot line w (by omega) hm).mono ?_;rintro e O ⟨rfl,M,Q⟩;refine⟨_,_,_,rfl,?_⟩;rintro w2 rfl;have l:ZH w O.drew:=Q.drew;have T:=hR.on l;have g:dy O.drew (some (nb w)) (cH 32 line):=M;have N:=tS 32 line;have H:=rT 32 line;obtain⟨first,q,o⟩:∃f r,cH 32 line=f::r:=by
  cases i:cH 32 line with
  |nil=>exact absurd i (w_ 32 line)
  |cons f r=>exact⟨f,r,rfl⟩
 have W:gz s k n line=K4 k n (uI s (first::q)):=by unfold gz;rw [o]
 rw [o]at g N H⊢;obtain⟨p,d,_,V⟩:=g 0 _ rfl;cases d;refine ag.mk (nb w) rfl ⟨by simp,by simp,str first,V,by simp,by simp;omega,trivial,trivial,trivial,?_⟩;have L:=hR.lt;have A:∃D,bB (some (nb w)) (1:Int).toNat (((first::q).length:Nat):Int).toNat 1=D∧dy O.drew D q∧∀p,D=some p→p.block≠b:=by
  refine⟨_,rfl,?_,?_⟩
  ·intro j t Z;have I:=(List.getElem?_eq_some_iff.1 Z).1;obtain⟨p,d,L,i⟩:=g (j+1) t (by simpa using Z);cases d;have:bB (some (nb w)) (1:Int).toNat (((first::q).length:Nat):Int).toNat 1=some ((nb w).add 1):=by
    unfold bB;rw [if_neg (by simp;intro e;rw [e]at I;simp at I)];rfl
   refine⟨_,this,by rw [ay];exact L,?_⟩;rw [aG]at i⊢;rw [aG];rw [←i];congr 2;omega
  ·intro p d;unfold bB at d;split at d
   ·cases d;dsimp only;omega
   ·cases d;rw [ay];dsimp only;omega
 obtain⟨D,U,z,u⟩:=A;rw [U];have K:(((first::q).length:Nat):Int).toNat- (1:Int).toNat=q.length:=by simp
 rw [K];have F:Below B w O.drew:=l.mono S;refine(wd B b x s k first D _ q O.drew T hs z u (fun y hy=>by have:=N y (by simp [hy]);omega) (by simp at H;omega) (ht.on l) (he.on l)).mono ?_;rintro e X ⟨j,ok,rfl,d,R⟩;have h:Below B w X:=F.trans R;refine⟨_,_,rfl,?_⟩;rw [W];cases ha:uI s (first::q)with
 |none=>
  rw [ha]at d;have d:ok=false:=d;subst d;exact ac.yes rfl ⟨false,rfl,rfl,h⟩
 |some sj=>
  obtain⟨s',j'⟩:=sj;rw [ha]at d;obtain⟨rfl,rfl,P,c⟩:=d;refine ac.no rfl ?_;simp only [K4];refine ac.mk ?_ ?_
  ·intro i;refine⟨false,rfl,?_,h⟩;rw [if_neg ?_]
   ·rfl
   ·rintro⟨Y,_⟩;have:((n:Int)==0)=((j':Int)==0):=by
     rw [Bool.eq_iff_iff];simp;omega
    rw [this]at i;simp at i
  ·intro i;have Y:n=0↔j'=0:=by
    simp at i;rw [Bool.eq_iff_iff]at i;simp at i;omega
   refine ag.mk ⟨b,0,none⟩ rfl ⟨_,(aF (j:=6) c.blk).trans rfl,ac.mk ?_ ?_⟩
   ·intro J;have J:=XQ J;refine⟨false,rfl,?_,h⟩;rw [if_neg (by omega)];rfl
   ·intro J;have J:=XX J;have E:∀j v,(vW P k)[j]? =some v→X.cell? (((⟨b,0,none⟩:Addr).add 0).add j)=some v:=by
     intro j v hv;rw [aC,aF c.blk,hv]
    refine ag.mk ⟨b,0,none⟩ rfl ⟨P.ranked,_,_,_,_,_,_,_,_,_,_,_,_,_,_,_,⟨?_,E 1 _ rfl,E 2 _ rfl,E 3 _ rfl,E 4 _ rfl,E 5 _ rfl,trivial⟩,?_⟩
    ·rw [aC];have:=aF (j:=0) c.blk;rw [aC]at this;exact this
    refine(un P s' X c.spec).mono ?_;rintro e w4 ⟨rfl,G⟩;have a:=c.on G;have m:Below B w w4:=h.trans (G.mono (XW c.hB (Nat.le_of_lt c.lt)));refine⟨_,rfl,ac.mk ?_ ?_⟩
    ·intro C;refine⟨false,rfl,?_,m⟩;rw [if_neg (by rintro⟨_,_,e⟩;rw [e]at C;simp at C)];rfl
    ·intro C;have C:s'.right=true:=by simpa using C
     refine ag.mk ⟨b,0,none⟩ rfl ⟨rfl,⟨_,(aF (j:=6) a.blk).trans rfl⟩,bc a.blk,?_⟩;rintro w5 rfl;refine⟨true,rfl,?_,bv m a.hB _⟩;rw [if_pos ⟨Y,by omega,C⟩];refine⟨rfl,P,a.hB,(bu (j:=6) a.blk _).trans rfl,a.rk,a.rows.setCell _ _ (by rw [ay];exact a.off),a.off⟩
theorem rK {α:Type} {enc:α→List Value} {sz:Nat} {w:World} {a:Option Addr}:Rw enc sz w a []:=by
 intro j x b;simp at b
theorem F4 (w:World):cY w gu {}:=⟨rfl,rfl,rK,rfl,rK,rfl,rK,rfl,rK,rfl,rK⟩
theorem sN {w w6:World} {c:Array Value} {T:TypeId} (R:Value→World→Prop) (n m:Int) (x:bk) (hblk:w6.heap[w.heap.size]? =some (.cells c T (0,0))) (hc:c.size=6)
  (hR:∀w7,(∀w0,Below w.heap.size w0 w6→Below w.heap.size w0 w7)→(∀j,j≠w.heap.size→w7.heap[j]? =w6.heap[j]?)→R (.tuple #[x.v,.int .i64 n,.int .i64 m]) w7):
  aI w6 (nb w) (fun w7=>
   ∃res0:Bool,∃res1A:Option Addr,∃res1N:Nat,∃res1C:Nat,∃res2A:Option Addr,∃res2N:Nat,∃res2C:Nat,∃res3A:Option Addr,∃res3N:Nat,∃res3C:Nat,∃res4A:Option Addr,∃res4N:Nat,∃res4C:Nat,∃res5A:Option Addr,∃res5N:Nat,∃res5C:Nat,(w7.cell? (nb w)=some (Value.bool res0)∧w7.cell? ((nb w).add 1)=some (Value.slice res1A res1N res1C)∧w7.cell? ((nb w).add 2)=some (Value.slice res2A res2N res2C)∧w7.cell? ((nb w).add 3)=some (Value.slice res3A res3N res3C)∧w7.cell? ((nb w).add 4)=some (Value.slice res4A res4N res4C)∧w7.cell? ((nb w).add 5)=some (Value.slice res5A res5N res5C)∧True)∧
   R (Value.tuple #[Value.agg #[Value.bool res0,Value.slice res1A res1N res1C,Value.slice res2A res2N res2C,Value.slice res3A res3N res3C,Value.slice res4A res4N res4C,Value.slice res5A res5N res5C],Value.int .i64 n,Value.int .i64 m]) w7)
   [Value.bool x.ranked,Value.slice x.s1.a x.s1.n x.s1.c,Value.slice x.s2.a x.s2.n x.s2.c,Value.slice x.s3.a x.s3.n x.s3.c,Value.slice x.s4.a x.s4.n x.s4.c,Value.slice x.s5.a x.s5.n x.s5.c] 0:=by
 refine dA _ 0 w6 c 0 hblk (by simp [hc]) (by intro v d;simp at d;rcases d with rfl |rfl |rfl |rfl |rfl |rfl<;>rfl) ?_
 intro w7 f b i g;have a:w7.heap[w.heap.size]? =some (.cells x.cells T (0,0)):=by
  rw [f];congr 2;simp [iQ,hc]
 have e:w7.cell? (nb w)=some (Value.bool x.ranked):=by have:=aF (j:=0) a;rw [aC]at this;exact this.trans rfl
 exact⟨x.ranked,_,_,_,_,_,_,_,_,_,_,_,_,_,_,_,⟨e,(aF (j:=1) a).trans rfl,(aF (j:=2) a).trans rfl,(aF (j:=3) a).trans rfl,(aF (j:=4) a).trans rfl,(aF (j:=5) a).trans rfl,trivial⟩,hR w7 (fun w0 h=>g _ w0 (XV _) h) b⟩
def eB (t:Bs) (v:Value) (w':World):Prop:=
 if 60000<t.length then ∃x,v= .tuple #[x.v,.int .i64 0,.int .i64 3]∧cY w' x {}
 else match jz t with
  | .ok s=>∃x,v= .tuple #[x.v,.int .i64 0,.int .i64 0]∧cY w' x s
  | .error m=>∃x,v= .tuple #[x.v,.int .i64 m,.int .i64 2]∧cY w' x {}
theorem tN (t:Bs) (w:World) (ht:EH w) (he:nZ w) (hm:Mx w):
  CP 90 #[.string (str t)] w fun e w'=>∃v,e= .returned v∧eB t v w'∧ZH w w':=by
 refine(DD (str t) w (fun v w'=>eB t v w'∧ZH w w') ?_);intro W U;have L:ZH w W:=by rw [U];exact ah _ _
 have k1:W.heap[w.heap.size]? =some (.cells gu.cells dp (0,0)):=by rw [U];exact aq w _
 have R:w.heap.size<W.heap.size:=(XY.1 k1).1;refine ac.mk ?_ ?_
 ·intro M;have M:=XQ M;rw [aP]at M;refine sN (fun v w'=>eB t v w'∧ZH w w') 0 3 gu k1 rfl ?_;intro q c n;refine⟨?_,c w L⟩;unfold eB;rw [if_pos (by omega)];exact⟨gu,rfl,F4 q⟩
 ·intro M;have M:=XX M;rw [aP]at M;refine(Ec t W (by omega) (hm.on L)).mono ?_;rintro e o ⟨ra,rc,rfl,T,K⟩;refine⟨_,_,_,_,rfl,?_⟩;intro O V;have hlt3:W.heap.size≤o.heap.size:=K.size;have a1:=ae L K;have A:ZH o O:=by rw [V];exact ah _ _
  have a0:eV o.heap.size o.heap.size gu {} 0 O:=by
   refine⟨XV _,by rw [V];exact aq o _,rfl,⟨?_,?_⟩,?_⟩
   ·intro r g;simp at g;rcases g with rfl |rfl |rfl |rfl |rfl<;>exact cU _ _ _ _
   ·simp only [wA,List.pairwise_cons];refine⟨?_,?_,?_,?_,?_,List.Pairwise.nil⟩<;>(intro r' _ k hk;cases hk)
   ·intro r g;simp at g;rcases g with rfl |rfl |rfl |rfl |rfl<;>(intro e;cases e)
  have S:=w_ 10 t;have G:(cH 10 t).dropLast.length=(cH 10 t).length-1:=by simp
  have hpos:0< (cH 10 t).length:=List.length_pos_iff.2 S;have hcnt:=rT 10 t;have a6:=tS 10 t;have kk:∀ {d:World},Below o.heap.size O d→d.heap[w.heap.size]? =some (.cells gu.cells dp (0,0)):=by
   intro d c;rw [c.block _ (by omega),A.block _ (by omega),K.block _ R,k1]
  have J:∀ {d:World},Below o.heap.size O d→ZH w d:=fun c=>ae a1 (A.trans c);have H:∀(m:Nat) {d:World},Below o.heap.size O d→jz t= .error m→∀z:Int,z=m→
    aI d (nb w) (fun q=>
   ∃res0:Bool,∃res1A:Option Addr,∃res1N:Nat,∃res1C:Nat,∃res2A:Option Addr,∃res2N:Nat,∃res2C:Nat,∃res3A:Option Addr,∃res3N:Nat,∃res3C:Nat,∃res4A:Option Addr,∃res4N:Nat,∃res4C:Nat,∃res5A:Option Addr,∃res5N:Nat,∃res5C:Nat,(q.cell? (nb w)=some (Value.bool res0)∧q.cell? ((nb w).add 1)=some (Value.slice res1A res1N res1C)∧q.cell? ((nb w).add 2)=some (Value.slice res2A res2N res2C)∧q.cell? ((nb w).add 3)=some (Value.slice res3A res3N res3C)∧q.cell? ((nb w).add 4)=some (Value.slice res4A res4N res4C)∧q.cell? ((nb w).add 5)=some (Value.slice res5A res5N res5C)∧True)∧
   (fun v w'=>eB t v w'∧ZH w w') (Value.tuple #[Value.agg #[Value.bool res0,Value.slice res1A res1N res1C,Value.slice res2A res2N res2C,Value.slice res3A res3N res3C,Value.slice res4A res4N res4C,Value.slice res5A res5N res5C],Value.int .i64 z,Value.int .i64 2]) q)
   [Value.bool false,Value.slice none 0 0,Value.slice none 0 0,Value.slice none 0 0,Value.slice none 0 0,Value.slice none 0 0] 0:=by
   intro m d c D z hz;refine sN (fun v w'=>eB t v w'∧ZH w w') z 2 gu (kk c) rfl ?_;intro q E n;refine⟨?_,E w (J c)⟩;unfold eB;rw [if_neg (by omega),D];exact⟨gu,by rw [hz],F4 q⟩
  intro I hI;refine aZ (α:=bk×am×Nat×World) ((cH 10 t).length-1)
   (fun i y=>eV o.heap.size o.heap.size y.1 y.2.1 y.2.2.1 y.2.2.2∧gW y.2.1∧jq {} 0 0 (cH 10 t).dropLast=jq y.2.1 y.2.2.1 i ((cH 10 t).dropLast.drop i)∧Below o.heap.size O y.2.2.2)
   (fun i y=>I [.int .i64 (i:Int),.int .i64 0,.int .i64 0] y.2.2.2) (gu,{},0,O) ⟨a0,by simp [gW],rfl,Below.refl _ _⟩ ?_ ?_
  ·rintro i hi ih ⟨x,s,k,d⟩ ⟨F,X,a,c⟩;dsimp only at F X a c;refine hI _ _ _ _ (ac.yes (by simp;omega) ?_);have N:i< (cH 10 t).dropLast.length:=by omega
   have a2:ZH o d:=A.trans c;obtain⟨p,a4,_,a3⟩:=(T.on a2) i _ (XK N);refine ag.mk p a4 ⟨by omega,by omega,str (cH 10 t).dropLast[i],by simpa using a3,?_⟩;have hll:(cH 10 t).dropLast[i].length≤60000:=by
    have:=a6 _ (List.dropLast_subset _ (List.getElem_mem N));omega
   have u:=J c;refine(xf _ _ x s k i (cH 10 t).dropLast[i] d F X (by omega) (ht.on u) (he.on u) (hm.on u)).mono ?_;rintro e w6 ⟨ok,rfl,D,Q⟩;rw [List.drop_eq_getElem_cons N,jq]at a;refine⟨_,rfl,?_⟩;cases g:gz s k i (cH 10 t).dropLast[i]with
   |none=>
    rw [g]at D a;have D:ok=false:=D;subst D;refine ac.yes rfl (Ar.ok64 (by omega) (by omega) ?_);exact H (i+1) (c.trans Q) (by unfold jz;rw [a]) _ (by simp)
   |some sj=>
    obtain⟨s',j⟩:=sj;rw [g]at D a;obtain⟨rfl,x',Z⟩:=D;refine ac.no rfl (Ar.ok64 (by omega) (by omega) ?_);refine ih (x',s',j,w6) ⟨Z,?_,a,c.trans Q⟩;refine dz ?_;unfold gz K4 at g;split at g
    ·cases g
    ·split at g
     ·rename_i hg;cases g;exact hg.2.2
     ·cases g
  ·rintro⟨x,s,k,d⟩ ⟨F,X,a,c⟩;dsimp only at F X a c;refine hI _ _ _ _ (ac.no (by simp) ?_);rw [List.drop_eq_nil_of_le (by omega),jq]at a;refine ac.mk ?_ ?_
   ·intro l;have l:¬(cH 10 t).getLast?=some []:=by simpa using l
    refine Ar.ok64 (by omega) (by omega) ?_;exact H (cH 10 t).length c (by unfold jz;rw [a];dsimp only;rw [if_neg (fun h=>l h.1)]) _ (by omega)
   ·intro l;have l:(cH 10 t).getLast?=some []:=by simpa using l
    refine ac.mk ?_ ?_
    ·intro B;have B:(((cH 10 t).length-1:Nat):Int)=0:=by simpa using B
     refine Ar.ok64 (by omega) (by omega) ?_;exact H (cH 10 t).length c (by unfold jz;rw [a];dsimp only;rw [if_neg (fun h=>h.2 (List.eq_nil_of_length_eq_zero (by omega)))]) _ (by omega)
    ·intro B;have B:(((cH 10 t).length-1:Nat):Int)≠0:=by simpa using B
     have P:∀j v,(vW x k)[j]? =some v→d.cell? (((nb o).add 0).add j)=some v:=by
      intro j v hv;rw [aC,aF F.blk,hv]
     have Y:d.cell? ((nb o).add 0)=some (.bool x.ranked):=(aF (j:=0) F.blk).trans rfl;refine⟨x.ranked,_,_,_,_,_,_,_,_,_,_,_,_,_,_,_,⟨Y,P 1 _ rfl,P 2 _ rfl,P 3 _ rfl,P 4 _ rfl,P 5 _ rfl,trivial⟩,?_⟩;refine sN (fun v w'=>eB t v w'∧ZH w w') 0 0 x (kk c) rfl ?_;intro q E n;refine⟨?_,E w (J c)⟩;unfold eB;rw [if_neg (by omega)];have a5:jz t= .ok s:=by
      unfold jz;rw [a];dsimp only;rw [if_pos ⟨l,fun h=>by rw [h]at G;simp at G;omega⟩]
     rw [a5];refine⟨x,rfl,?_⟩;have b:=F.spec;have C:d.heap.size≤q.heap.size:=(E d (Below.refl _ _)).size;have f:∀r∈wA x s,∀p,r.sl.a=some p→p.block≠w.heap.size:=by
      intro r g p D;have h1:r.blk=some p.block:=by
       unfold ik.blk Sl.v;rw [D];rfl
      have:=(F.rows.lt g _ h1).1;omega
     exact⟨b.ranked,b.n1,b.r1.off n C (f (row1 x.s1 s) (by simp)),b.n2,b.r2.off n C (f (row2 x.s2 s) (by simp)),b.n3,b.r3.off n C (f (zI x.s3 s) (by simp)),
      b.n4,b.r4.off n C (f (z_ x.s4 s) (by simp)),b.n5,b.r5.off n C (f (zY x.s5 s) (by simp))⟩
theorem f_ {i:Nat} (h:¬i<10):Lib.decDigits i=Lib.decDigits (i/10)++ [UInt8.ofNat (48+i%10)]:=by rw [Lib.decDigits,dif_neg h]
structure tg (w:World):Prop where
 pow:EH w
 errs:nZ w
 mx:Mx w
theorem tg.on {w w':World} (h:tg w) (hb:ZH w w'):tg w':=⟨h.pow.on hb,h.errs.on hb,h.mx.on hb⟩
section
variable {H:Type} {enc0:TypeId×Value→H} {w:World} {base:Nat} {spare:Nat→Bool} {held:Bool}
end
open Go Go.Value
def ST (a b:OA) (c d:Nat) (w:World) (R:RW):Prop:=
 ac (Option.isNone a)
 (R (tuple #[slice none 0 0,int .i64 0,int .i64 1]) w)
 (ag a (fun f=>
 CP 105 #[pointer (some (f.add 13)),int .i64 1] w (fun g h=>
 Zx g fun i=>
 ∀j:KW,(∀(k:Int) (l:OA) (m n:Nat) (o p:Int) (q:OA) (r s:Nat) (t:World),(ac (decide (k< (c:Int)))
 (Zm b k c (fun u=>
 Zs t (u.add (k.toNat*1)) fun x=>
 CP 113 #[pointer a,int .i64 x] t (fun y z=>
 ZM y fun a1 b1 c1 d1=>
 ac (!d1)
 (R (tuple #[slice none 0 0,int .i64 k,int .i64 4]) z)
 (Zh 28 #[slice l m n,slice a1 b1 c1] z fun e1 f1 g1 h1=>
 Ar .i64 (k+1) (fun i1=>
 j [int .i64 i1,slice e1 f1 g1,int .i64 o,int .i64 p,slice q r s] h1)))))
 (R (tuple #[slice l m n,int .i64 (c:Int),int .i64 0]) t))→j [int .i64 k,slice l m n,int .i64 o,int .i64 p,slice q r s] t)→
 j [int .i64 0,slice none 0 0,int .i64 0,int .i64 0,slice none 0 0] h)))
theorem D2 (a b:OA) (c d:Nat) (w:World) (R:RW) (hh:ST a b c d w R):CR 47 #[pointer a,slice b c d] w R:=by refine aH (fn:=Tryz.f47) ?_ ?_ ?_ ?_ ?_ hh<;>kernel_rfl
def OR (a:OA) (b:Int) (w:World) (R:RW):Prop:=
 ag a (fun c=>
 Zt w ((c.add 0).add 8) fun d=>
 CP 106 #[pointer d,int .i64 b] w (fun f g=>
 Zy f fun h i=>
 ac i
 (Zv g #[int .i64 h] 3 fun j=>
 R (tuple #[slice (some (nb g)) 1 1,bool true]) j)
 (ag a (fun k=>
 Zt g ((k.add 0).add 6) fun l=>
 CP 163 #[pointer l,int .i64 b] g (fun m n=>
 Zd m fun o p=>
 CP 168 #[string o] n (fun q r=>
 Zr q fun s t u=>
 R (tuple #[slice s t u,bool p]) r))))))
theorem x_ (a:OA) (b:Int) (w:World) (R:RW) (hh:OR a b w R):CR 113 #[pointer a,int .i64 b] w R:=by refine aH (fn:=Tryz.f113) ?_ ?_ ?_ ?_ ?_ hh<;>kernel_rfl
def QA (a:OA) (b:ByteArray) (w:World) (R:RW):Prop:=
 ∀c:KW,(∀(d:Int) (f:OA) (g h:Nat) (i:World),(ac (decide (d< (b.size:Int)))
 (∀j:KW,(∀(k:Int) (l:OA) (m n:Nat) (o:World),(c [int .i64 k,slice l m n] o)→j [int .i64 k,slice l m n] o)→
 (0:Int)≤d∧d≤((b.size:Nat):Int)∧((b.size:Nat):Int)≤(b.size:Int)∧
 CP 173 #[pointer a,string (b.extract d.toNat ((b.size:Nat):Int).toNat)] i (fun p q=>
 Zy p fun r s=>
 ac (!s)
 ((0:Int)≤d∧d< (b.size:Int)∧
 Zv q #[int .i64 (IntKind.wrap .i64 (dM b d))] 3 fun t=>
 Zh 28 #[slice f g h,slice (some (nb q)) 1 1] t fun u x y z=>
 Ar .i64 (d+1) (fun a1=>
 j [int .i64 a1,slice u x y] z))
 (CP 174 #[pointer a,int .i64 r] q (fun b1 c1=>
 Z3 b1 fun d1 e1 f1=>
 Zv c1 #[int .i64 0,string ⟨#[]⟩] 87 fun g1=>
 aI g1 (nb c1) (fun h1=>
 Zv h1 #[int .i64 r] 3 fun i1=>
 Zh 28 #[slice f g h,slice (some (nb h1)) 1 1] i1 fun j1 k1 l1 m1=>
 Z0 m1 ((nb c1).add 1) fun n1=>
 Ar .i64 (d+(n1.size:Int)) (fun o1=>
 j [int .i64 o1,slice j1 k1 l1] m1)) [int .i64 d1,string e1] 0))))
 (R (slice f g h) i))→c [int .i64 d,slice f g h] i)→
 c [int .i64 0,slice none 0 0] w
theorem CO (a:OA) (b:ByteArray) (w:World) (R:RW) (hh:QA a b w R):CR 119 #[pointer a,string b] w R:=by refine aH (fn:=Tryz.f119) ?_ ?_ ?_ ?_ ?_ hh<;>kernel_rfl
def PY (a:ByteArray) (w:World) (R:RW):Prop:=
 ∀b:KW,(∀(c:Int) (d:OA) (f g:Nat) (h:World),(ac (decide (c< (a.size:Int)))
 ((0:Int)≤c∧c< (a.size:Int)∧
 Zv h #[int .i64 (IntKind.wrap .i64 (dM a c))] 3 fun i=>
 Zh 28 #[slice d f g,slice (some (nb h)) 1 1] i fun j k l m=>
 Ar .i64 (c+1) (fun n=>
 b [int .i64 n,slice j k l] m))
 (R (slice d f g) h))→b [int .i64 c,slice d f g] h)→
 b [int .i64 0,slice none 0 0] w
theorem zN (a:ByteArray) (w:World) (R:RW) (hh:PY a w R):CR 168 #[string a] w R:=by refine aH (fn:=Tryz.f168) ?_ ?_ ?_ ?_ ?_ hh<;>kernel_rfl
def QW (a:OA) (b:ByteArray) (w:World) (R:RW):Prop:=
 ∀c,c=w.drew→
 ac (Option.isNone a)
 (R (tuple #[int .i64 0,bool false]) c)
 (ac (b.toList==(⟨#[]⟩:ByteArray).toList)
 (R (tuple #[int .i64 0,bool false]) c)
 ((0:Int)≤0∧0< (b.size:Int)∧
 ag a (fun d=>
 (0:Int)≤(dM b 0)∧(dM b 0) < (256:Int)∧
 Zk c ((d.add 3).add ((dM b 0:Int).toNat*1)) fun f=>
 ac (!f)
 (R (tuple #[int .i64 0,bool false]) c)
 (ag a (fun g=>
 Zs c (g.add 259) fun h=>
 ∃i j,(Builtin.min_ #[3,3] 3 #[int .i64 h,int .i64 (b.size:Int)]).run Tryz.prog c= .ok (int .i64 i) j∧
 ∀k:KW,(∀(l:Int) (m:Bool) (n:Int) (o:World),(ac (decide (l>0))
 (∀p,p=o.drew→
 ag a (fun q=>
 ∃r,p.cell? (q.add 2)=some (map r)∧
 (0:Int)≤(0:Int)∧(0:Int)≤l∧l≤(b.size:Int)∧
 ∃s t u,(Instr.lookup 205 (map r) (string (b.extract (0:Int).toNat l.toNat)) true).run Tryz.prog p= .ok (tuple #[int .i64 s,bool t]) u∧
 ac t
 (CP 160 #[int .i64 s] u (fun x y=>
 Zx x fun z=>
 R (tuple #[int .i64 z,bool true]) y))
 (Ar .i64 (l-1) (fun a1=>
 k [int .i64 a1,bool m,int .i64 n] u))))
 (R (tuple #[int .i64 0,bool false]) o))→k [int .i64 l,bool m,int .i64 n] o)→
 k [int .i64 i,bool false,int .i64 0] j)))))
theorem De (a:OA) (b:ByteArray) (w:World) (R:RW) (hh:QW a b w R):CR 173 #[pointer a,string b] w R:=by refine aH (fn:=Tryz.f173) ?_ ?_ ?_ ?_ ?_ hh<;>kernel_rfl
def Pg (a b:OA) (c d:Nat) (w:World) (R:RW):Prop:=
 Zv w #[pointer a] 31 fun f=>
 Zv f #[slice b c d] 28 fun g=>
 R (func (.func 260) #[] #[pointer (some (nb f)),pointer (some (nb w))]) g
theorem BM (a b:OA) (c d:Nat) (w:World) (R:RW) (hh:Pg a b c d w R):CR 224 #[pointer a,slice b c d] w R:=by refine aH (fn:=Tryz.f224) ?_ ?_ ?_ ?_ ?_ hh<;>kernel_rfl
def P3 (a b:OA) (c d:Nat) (w:World) (R:RW):Prop:=
 Zm b 0 c (fun f=>
 Zs w (f.add ((0:Int).toNat*1)) fun g=>
 ac (decide (g<0))
 (∀h,h=w.drew→
 Zm b 0 c (fun i=>
 Zs h (i.add ((0:Int).toNat*1)) fun j=>
 CP 56 #[pointer a] h (fun k l=>
 Zj k fun m=>
 (l.cell? (i.add ((0:Int).toNat*1))=some (int .i64 j)∧True)∧
 CP 262 #[pointer m,int .i64 j] l (fun n o=>
 Zy n fun p q=>
 Zv o #[int .i64 p] 3 fun r=>
 R (slice (some (nb o)) 1 1) r))))
 (CP 54 #[pointer a] w (fun s t=>
 Zj s fun u=>
 CP 263 #[slice b c d] t (fun x y=>
 ZU x fun z=>
 CP 164 #[pointer u,string z] y (fun a1 b1=>
 Zr a1 fun c1 d1 e1=>
 R (slice c1 d1 e1) b1)))))
theorem Bx (a b:OA) (c d:Nat) (w:World) (R:RW) (hh:P3 a b c d w R):CR 225 #[pointer a,slice b c d] w R:=by refine aH (fn:=Tryz.f225) ?_ ?_ ?_ ?_ ?_ hh<;>kernel_rfl
def Su (a b:OA) (c d:Nat) (w:World) (R:RW):Prop:=
 Zm b 0 c (fun f=>
 Zs w (f.add ((0:Int).toNat*1)) fun g=>
 ac (decide (g<0))
 (R (int .i64 1) w)
 (∀h:KW,(∀(i j:Int) (k:World),(ac (decide (i< (c:Int)))
 (∀l,l=k.drew→
 Zm b i c (fun m=>
 Zs l (m.add (i.toNat*1)) fun n=>
 ac (decide (n<0))
 (R (int .i64 i) l)
 (Ar .i64 (i-1) (fun o=>
 Zm b o c (fun p=>
 Zs l (p.add (o.toNat*1)) fun q=>
 Zm b i c (fun r=>
 Zs l (r.add (i.toNat*1)) fun s=>
 CP 55 #[pointer a] l (fun t u=>
 Zj t fun x=>
 (u.cell? (r.add (i.toNat*1))=some (int .i64 s)∧True)∧
 (u.cell? (p.add (o.toNat*1))=some (int .i64 q)∧True)∧
 CP 227 #[pointer x,int .u8 (IntKind.wrap .u8 q),int .u8 (IntKind.wrap .u8 s)] u (fun y z=>
 Zp y fun a1=>
 ac a1
 (R (int .i64 i) z)
 (Ar .i64 (i+1) (fun b1=>
 h [int .i64 b1,int .i64 j] z))))))))))
 (R (int .i64 (c:Int)) k))→h [int .i64 i,int .i64 j] k)→
 h [int .i64 1,int .i64 0] w))
theorem yg (a b:OA) (c d:Nat) (w:World) (R:RW) (hh:Su a b c d w R):CR 261 #[pointer a,slice b c d] w R:=by refine aH (fn:=Tryz.f261) ?_ ?_ ?_ ?_ ?_ hh<;>kernel_rfl
def Q7 (a:OA) (b c:Nat) (w:World) (R:RW):Prop:=
 ∃d f g h,(Instr.makeSlice 57 (int .i64 0) (int .i64 (b:Int))).run Tryz.prog w= .ok (slice d f g) h∧
 ∀i:KW,(∀(j:Int) (k:OA) (l m:Nat) (n:World),(ac (decide (j< (b:Int)))
 (Zm a j b (fun o=>
 Zs n (o.add (j.toNat*1)) fun p=>
 Zv n #[int .u8 (IntKind.wrap .u8 p)] 5 fun q=>
 Zh 57 #[slice k l m,slice (some (nb n)) 1 1] q fun r s t u=>
 Ar .i64 (j+1) (fun x=>
 i [int .i64 x,slice r s t] u)))
 (∃y z,(convert 57 9 (slice k l m)).run Tryz.prog n= .ok (string y) z∧
 R (string y) z))→i [int .i64 j,slice k l m] n)→
 i [int .i64 0,slice d f g] h
theorem Af (a:OA) (b c:Nat) (w:World) (R:RW) (hh:Q7 a b c w R):CR 263 #[slice a b c] w R:=by refine aH (fn:=Tryz.f263) ?_ ?_ ?_ ?_ ?_ hh<;>kernel_rfl
def Qq (a b:OA) (c d:Nat) (w:World) (R:RW):Prop:=
 Zv w #[pointer a] 145 fun f=>
 ∀g:KW,(∀(h i:Int) (j:World),(ac (decide (i<h))
 (∀k:KW,(∀(l m:Int) (n:World),(g [int .i64 l,int .i64 m] n)→k [int .i64 l,int .i64 m] n)→
 Ar .i64 (i+h) (fun o=>
 (2:Int)≠0∧
 ∀p,p=j.drew→
 ZK p (nb w) fun q=>
 Ar .i64 ((IntKind.wrap .i64 (Int.tdiv o 2):Int)+1) (fun r=>
 (0:Int)≤(0:Int)∧(0:Int)≤r∧r≤(d:Int)∧True∧True∧
 CP 374 #[agg #[pointer q],slice (bB b (0:Int).toNat (d:Int).toNat 1) (r.toNat- (0:Int).toNat) ((d:Int).toNat- (0:Int).toNat)] p (fun s t=>
 Zp s fun u=>
 ac u
 (Ar .i64 ((IntKind.wrap .i64 (Int.tdiv o 2):Int)+1) (fun x=>
 k [int .i64 h,int .i64 x] t))
 (k [int .i64 (IntKind.wrap .i64 (Int.tdiv o 2)),int .i64 i] t)))))
 (ac (i==(c:Int))
 (R (tuple #[int .i64 0,bool false]) j)
 (R (tuple #[int .i64 i,bool true]) j)))→g [int .i64 h,int .i64 i] j)→
 g [int .i64 (c:Int),int .i64 0] f
theorem yM (a b:OA) (c d:Nat) (w:World) (R:RW) (hh:Qq a b c d w R):CR 373 #[agg #[pointer a],slice b c d] w R:=by refine aH (fn:=Tryz.f373) ?_ ?_ ?_ ?_ ?_ hh<;>kernel_rfl
def PP (a b:OA) (c d:Nat) (w:World) (R:RW):Prop:=
 Zv w #[pointer a] 145 fun f=>
 Zt f ((nb w).add 0) fun g=>
 CP 47 #[pointer g,slice b c d] f (fun h i=>
 ZJ h fun j k l m n=>
 ac (n != 0)
 (R (bool false) i)
 (Zt i ((nb w).add 0) fun o=>
 CP 376 #[pointer o,slice j k l] i (fun p q=>
 Zr p fun r s t=>
 CP 375 #[slice r s t,slice b c d] q (fun u x=>
 Zp u fun y=>
 R (bool y) x))))
theorem yu (a b:OA) (c d:Nat) (w:World) (R:RW) (hh:PP a b c d w R):CR 374 #[agg #[pointer a],slice b c d] w R:=by refine aH (fn:=Tryz.f374) ?_ ?_ ?_ ?_ ?_ hh<;>kernel_rfl
def OX (a:OA) (b c:Nat) (d:OA) (f g:Nat) (w:World) (R:RW):Prop:=
 ac ((b:Int) != (f:Int))
 (R (bool false) w)
 (∀h:KW,(∀(i:Int) (j:Bool) (k:World),(ac (decide (i< (b:Int)))
 (∀l,l=k.drew→
 Zm a i b (fun m=>
 Zs l (m.add (i.toNat*1)) fun n=>
 Zm d i f (fun o=>
 Zs l (o.add (i.toNat*1)) fun p=>
 ac (n != p)
 (R (bool false) l)
 (Ar .i64 (i+1) (fun q=>
 h [int .i64 q,bool j] l)))))
 (R (bool true) k))→h [int .i64 i,bool j] k)→
 h [int .i64 0,bool false] w)
theorem Am (a:OA) (b c:Nat) (d:OA) (f g:Nat) (w:World) (R:RW) (hh:OX a b c d f g w R):CR 375 #[slice a b c,slice d f g] w R:=by refine aH (fn:=Tryz.f375) ?_ ?_ ?_ ?_ ?_ hh<;>kernel_rfl
def PS (a b:OA) (c d:Nat) (w:World) (R:RW):Prop:=
 Zv w #[pointer a] 31 fun f=>
 Zt f (nb w) fun g=>
 ac (Option.isNone g)
 (R (slice none 0 0) f)
 (CP 377 #[slice b c d,func (.func 378) #[] #[pointer (some (nb w))]] f (fun h i=>
 Zp h fun j=>
 ac j
 (R (slice none 0 0) i)
 (Zt i (nb w) fun k=>
 CP 172 #[pointer k,slice b c d] i (fun l m=>
 Zr l fun n o p=>
 R (slice n o p) m))))
theorem yw (a b:OA) (c d:Nat) (w:World) (R:RW) (hh:PS a b c d w R):CR 376 #[pointer a,slice b c d] w R:=by refine aH (fn:=Tryz.f376) ?_ ?_ ?_ ?_ ?_ hh<;>kernel_rfl
def O6 (a:OA) (b c:Nat) (d:Value) (w:World) (R:RW):Prop:=
 CP 85 #[slice a b c,d] w (fun f g=>
 Zx f fun h=>
 R (bool (decide (h≥0))) g)
theorem yi (a:OA) (b c:Nat) (d:Value) (w:World) (R:RW) (hh:O6 a b c d w R):CR 377 #[slice a b c,d] w R:=by refine aH (fn:=Tryz.f377) ?_ ?_ ?_ ?_ ?_ hh<;>kernel_rfl
def Pa (a:Int) (b:OA) (w:World) (R:RW):Prop:=
 ag b (fun c=>
 Zt w c fun d=>
 CP 379 #[pointer d,int .i64 a] w (fun f g=>
 Zp f fun h=>
 R (bool (!h)) g))
theorem Be (a:Int) (b:OA) (w:World) (R:RW) (hh:Pa a b w R):CR 378 #[int .i64 a,pointer b] w R:=by refine aH (fn:=Tryz.f378) ?_ ?_ ?_ ?_ ?_ hh<;>kernel_rfl
def Ru (a:OA) (b:Int) (w:World) (R:RW):Prop:=
 ac (decide (b≥0))
 (ac (decide (b<256))
 (R (bool true) w)
 (ac (decide (b<0))
 (CP 56 #[pointer a] w (fun c d=>
 Zj c fun f=>
 CP 226 #[pointer f] d (fun g h=>
 Zx g fun i=>
 Ar .i64 (0-i) (fun j=>
 R (bool (decide (b≥j))) h))))
 (R (bool false) w)))
 (ac (decide (b<0))
 (CP 56 #[pointer a] w (fun k l=>
 Zj k fun m=>
 CP 226 #[pointer m] l (fun n o=>
 Zx n fun p=>
 Ar .i64 (0-p) (fun q=>
 R (bool (decide (b≥q))) o))))
 (R (bool false) w))
theorem zX (a:OA) (b:Int) (w:World) (R:RW) (hh:Ru a b w R):CR 379 #[pointer a,int .i64 b] w R:=by refine aH (fn:=Tryz.f379) ?_ ?_ ?_ ?_ ?_ hh<;>kernel_rfl
def dV (s:am) (x:Int):Bool:=decide ((0≤x∧x<256)∨(x<0∧ -(s.specials.length:Int)≤x))
theorem uH (w:World) (v:Nat) (c:Array Value) (tp bp mp:Nat) (h:iv w v c tp bp mp) (s:am) (hM:ni w mp s.specials) (hl:s.specials.length≤1000000) (x:Int):
  CP 379 #[.pointer (some ⟨v,0,none⟩),.int .i64 x] w fun e w'=>e= .returned (.bool (dV s x))∧w'=w:=by
 refine aJ (zX (some ⟨v,0,none⟩) x w (fun u w'=>u= .bool (dV s x)∧w'=w) ?_) (by rintro v w' ⟨rfl,h⟩;exact⟨rfl,h⟩)
 have f:x<0→CP 56 #[.pointer (some ⟨v,0,none⟩)] w (fun j g=>
         ∃p:Option Addr,j= .returned (Value.pointer p)∧
         CP 226 #[Value.pointer p] g (fun k i=>
         ∃n:Int,k= .returned (Value.int .i64 n)∧
         Ar .i64 (0-n) (fun d=>Value.bool (decide ((x:Int)≥d))= .bool (dV s x)∧i=w))):=by
  intro m;refine(eD h).mono ?_;rintro e g ⟨rfl,l⟩;subst g;refine⟨_,rfl,(nQ w mp s.specials hM).mono ?_⟩;rintro e i ⟨rfl,l⟩;subst i;refine⟨_,rfl,Ar.ok64 (by omega) (by omega) ⟨?_,rfl⟩⟩;congr 1;exact decide_eq_decide.2 (by omega)
 refine ac.mk (fun a=>ac.mk (fun b=>⟨?_,rfl⟩) fun b=>ac.no ?_ ⟨?_,rfl⟩) fun a=>ac.yes ?_ (f ?_)
 ·have a:=XQ a;have b:=XQ b;rw [dV,XJ (.inl ⟨a,b⟩)]
 ·have a:=XQ a;exact XZ (by omega)
 ·have a:=XQ a;have b:=XX b;rw [dV,XZ (by omega)]
 ·have a:=XX a;exact XJ (by omega)
 ·have a:=XX a;omega
def fu (cut:Int→Int→Bool):List Int→Nat
 | []=>0
 | [_]=>1
 |x::y::r=>if cut x y=true then 1 else fu cut (y::r)+1
theorem rF (cut:Int→Int→Bool):∀l,fu cut l≤l.length
 | []=>XV _
 | [_]=>XV _
 |x::y::r=>by
  have:=rF cut (y::r);rw [fu];split
  ·simp
  ·simp at this⊢;omega
theorem Ih (cut:Int→Int→Bool) {l:List Int} (h:l≠ []):1≤fu cut l:=by
 match l,h with
 | [_],_=>exact XV _
 |x::y::r,_=>
  rw [fu];split<;>omega
theorem pM (cut:Int→Int→Bool):∀ {l:List Int},l≠ []→chop cut l=l.take (fu cut l)::chop cut (l.drop (fu cut l))
 | [_],_=>rfl
 |x::y::r,_=>by
  rw [chop,fu];split
  ·rfl
  ·rw [pM cut (l:=y::r) (by simp)];rfl
theorem FX {cut:Int→Int→Bool}:∀ {l:List Int} {n:Nat},1≤n→n≤l.length→(∀j,j+1<n→∀a b,l[j]? =some a→l[j+1]? =some b→cut a b=false)→(n=l.length∨∃a b,l[n-1]? =some a∧l[n]? =some b∧cut a b=true)→fu cut l=n
 | [],n,h1,h2,_,_=>by simp at h2;omega
 | [x],n,h1,h2,_,_=>by simp at h2;rw [fu];omega
 |x::y::r,n,h1,h2,h3,h4=>by
  rw [fu];by_cases hn:n=1
  ·subst hn;rcases h4 with h4 |⟨a,b,ha,hb,hc⟩
   ·simp at h4
   ·simp at ha hb;subst ha hb;rw [if_pos hc]
  ·have hc:=h3 0 (by omega) x y rfl rfl;rw [if_neg (by rw [hc];decide)];have:=FX (cut:=cut) (l:=y::r) (n:=n-1) (by omega) (by simp at h2⊢;omega) (fun j hj a b ha hb=>h3 (j+1) (by omega) a b (by simpa using ha) (by simpa using hb)) (by
    rcases h4 with h4 |⟨a,b,ha,hb,hc⟩
    ·exact .inl (by simp at h4⊢;omega)
    ·refine .inr ⟨a,b,?_,?_,hc⟩
     ·rw [show n-1=(n-1-1)+1 by omega]at ha;simpa using ha
     ·rw [show n=(n-1)+1 by omega]at hb;simpa using hb)
   omega
theorem zQ (w:World) (v:Nat) (c:Array Value) (tp bp mp:Nat) (h:iv w v c tp bp mp) (s:am) (T:List aX) (hB:so w bp s.classes s.joins) (hcl:∀c∈s.classes,bh c=true) (A:Option Addr) (C:Nat) (items:List Int) (hr:Rw an 1 w A items) (hne:items≠ []) (hl:items.length≤1000000) (hok:∀x∈items,x<256):
  CP 261 #[.pointer (some ⟨v,0,none⟩),.slice A items.length C] w fun e w'=>e= .returned (.int .i64 ((fu (ap s T).cut items:Nat):Int))∧ZH w w':=by
 refine aJ (yg (some ⟨v,0,none⟩) A items.length C w (fun u w'=>u= .int .i64 ((fu (ap s T).cut items:Nat):Int)∧ZH w w') ?_) (by rintro v w' ⟨rfl,h⟩;exact⟨rfl,h⟩);have g:0<items.length:=List.length_pos_iff.2 hne;obtain⟨p,hp,V⟩:=a_ hr g rfl;have l:∀(n:Nat) (q:World),ZH w q→1≤n→n≤items.length→(∀j,j+1<n→∀a b,items[j]? =some a→items[j+1]? =some b→(ap s T).cut a b=false)→(n=items.length∨∃a b,items[n-1]? =some a∧items[n]? =some b∧(ap s T).cut a b=true)→Value.int .i64 (n:Int)= .int .i64 ((fu (ap s T).cut items:Nat):Int)∧ZH w q:=fun n q D y z W X=>⟨by rw [FX y z W X],D⟩;refine ag.mk p hp ⟨by decide,by omega,_,V,ac.mk (fun t=>?_) fun t=>?_⟩
 ·have t:=XQ t;refine l 1 w (Below.refl _ _) (XV _) g (fun j o=>by omega) ?_;by_cases e:items.length=1
  ·exact .inl e.symm
  ·refine .inr ⟨items[0],items[1],XK g,XK (by omega),?_⟩;unfold Voc.cut;rw [XJ t];rfl
 ·have t:=XX t;intro I Q;have N:=aZ (α:=World) (items.length-1) (fun i q=>(∀(j:Nat) (o:j<items.length),j≤i→0≤items[j])∧(∀j,j+1<i+1→∀a b,items[j]? =some a→items[j+1]? =some b→(ap s T).cut a b=false)∧ZH w q) (fun i q=>∀F,I [.int .i64 ((i+1:Nat):Int),.int .i64 F] q) w ⟨fun j o Z=>by obtain rfl:j=0:=(by omega);omega,fun j o=>by omega,Below.refl _ _⟩ ?_ ?_
  ·exact N _
  ·rintro i hi ih q ⟨r,k,D⟩ F;refine Q _ F q (ac.yes (XJ (by omega)) ?_);intro O M;have f:=ae D (show ZH q O by subst M;exact aU q);obtain⟨R,B,G⟩:=a_ (hr.on f) (show i+1<items.length by omega) rfl;obtain⟨p2,L,P⟩:=a_ (hr.on f) (show i<items.length by omega) rfl;refine ag.mk R B ⟨by omega,by omega,_,G,ac.mk (fun d=>?_) fun d=>?_⟩
   ·have d:=XQ d;refine l (i+1) O f (by omega) (by omega) k (.inr ⟨items[i],items[i+1],XK (by omega),XK (by omega),?_⟩);unfold Voc.cut;rw [XJ d];simp
   ·have d:=XX d;have Y:=r i (by omega) (XV _);have H:=hok _ (List.getElem_mem (show i<items.length by omega));have J:=hok _ (List.getElem_mem (show i+1<items.length by omega));have wa:IntKind.wrap .u8 items[i]=items[i]:=cL (by show(0:Int)≤_;omega) (by show _≤(255:Int);omega);have wb:IntKind.wrap .u8 items[i+1]=items[i+1]:=cL (by show(0:Int)≤_;omega) (by show _≤(255:Int);omega);refine Ar.nat i (by omega) (by omega) (ag.mk p2 L ⟨by omega,by omega,_,P,ag.mk R B ⟨by omega,by omega,_,G,(lE (h.on f)).mono ?_⟩⟩);rintro e q2 ⟨rfl,hw⟩;subst q2;refine⟨_,rfl,⟨G,trivial⟩,⟨P,trivial⟩,?_⟩;rw [wa,wb];refine(pJ O bp s.classes s.joins (hB.on f) hcl _ _ ⟨Y,H⟩ ⟨by omega,J⟩).mono ?_;rintro e S ⟨rfl,U⟩;have E:=ae f U;have m:(ap s T).cut items[i] items[i+1]=cutB s.classes s.joins items[i] items[i+1]:=by
     unfold Voc.cut;rw [XZ (by omega),XZ (by omega)];rfl
    refine⟨_,rfl,ac.mk (fun K=>?_) fun K=>?_⟩
    ·exact l (i+1) S E (by omega) (by omega) k (.inr ⟨items[i],items[i+1],XK (by omega),XK (by omega),by rw [m];exact K⟩)
    ·refine Ar.nat (i+1+1) rfl (by omega) (ih S ⟨fun j o a0=>?_,fun j o a b y z=>?_,E⟩ _)
     ·by_cases e:j=i+1
      ·subst e;omega
      ·exact r j o (by omega)
     ·by_cases e:j=i
      ·subst e;rw [XK (by omega)]at y z;cases y;cases z;rw [m];exact K
      ·exact k j (by omega) a b y z
  ·rintro q ⟨r,k,D⟩ F;refine Q _ F q (ac.no (XZ (by omega)) (l items.length q D g (XV _) (fun j o=>k j (by omega)) (.inl rfl)))
theorem FC (w:World) (c:Nat) (hc:c≤1000000):∃w1,(Instr.makeSlice ic (.int .i64 0) (.int .i64 (c:Int))).run Tryz.prog w= .ok (.slice (some (nb w)) 0 c) w1∧w1.ownsRow w.heap.size kI 1 (.slice (some (nb w)) 0 c) 0 (([]:List UInt8).flatMap fg)∧ZH w w1:=by
 have h:(Tryz.prog.info? kI).map (fun i=>(i.zero,i.size,i.bytes))=some (some (.int .u8 0),1,1):=by kernel_rfl
 obtain⟨i,d,a⟩:=Option.map_eq_some_iff.1 h;simp only [Prod.mk.injEq]at a;obtain⟨f,e,b⟩:=a;have:=Go.run_make (P:=Tryz.prog) w ic kI i (.int .u8 0) (by kernel_rfl) d f .i64 .i64 0 (c:Int) (by omega) (by omega) (by rw [b];omega) (by omega);refine⟨_,this,?_,ah _ _⟩;refine⟨rfl,.inr ⟨w.heap.size,c,_,rfl,XV _,aq _ _,Nat.zero_le _,by unfold maxLen;omega,?_,by simp⟩⟩;rw [size_madeCells,e];simp
def rO (l:List Int):Bs:=l.map fun x=>UInt8.ofNat x.toNat
theorem G7 {l:List Int} (h:∀x∈l,0≤x∧x<256):bf (rO l)=l:=by
 unfold bf rO;rw [List.map_map];conv=>rhs;rw [←List.map_id l]
 apply List.map_congr_left;intro x a;obtain⟨b,c⟩:=h x a;show((UInt8.ofNat x.toNat).toNat:Int)=x;rw [UInt8.toNat_ofNat'];omega
theorem Ol {x:Int} (h:0≤x∧x<256):(#[Value.int .u8 (IntKind.wrap .u8 x)]:Array Value)=(fg (UInt8.ofNat x.toNat)).toArray:=by
 rw [cL (by show(0:Int)≤_;omega) (by show _≤(255:Int);omega)];unfold fg;rw [UInt8.toNat_ofNat',show((x.toNat%2^8:Nat):Int)=x by omega]
theorem xB (w:World) (A:Option Addr) (C:Nat) (items:List Int) (hr:Rw an 1 w A items) (hl:items.length≤100000) (hb:∀x∈items,0≤x∧x<256):
  CP 263 #[.slice A items.length C] w fun e w'=>e= .returned (.string (str (rO items)))∧ZH w w':=by
 refine aJ (Af A items.length C w (fun u w'=>u= .string (str (rO items))∧ZH w w') ?_) (by rintro v w' ⟨rfl,h⟩;exact⟨rfl,h⟩);obtain⟨o,k,F,r⟩:=FC w items.length (by omega);refine⟨_,_,_,o,k,?_⟩;intro I m;have l:=aZ (α:=Sl×World) items.length (fun i y=>y.2.ownsRow w.heap.size kI 1 y.1.v y.1.n ((rO (items.take i)).flatMap fg)∧y.1.n=i∧ZH w y.2) (fun i y=>I [.int .i64 (i:Int),y.1.v] y.2) (⟨some (nb w),0,items.length⟩,o) ⟨F,rfl,r⟩ ?_ ?_
 ·exact l
 ·rintro i j E ⟨f,q⟩ ⟨a,d,b⟩;change q.ownsRow w.heap.size kI 1 f.v f.n _ at a;change f.n=i at d;change ZH w q at b;obtain⟨p,D,s⟩:=a_ (hr.on b) j rfl;refine m _ f.a f.n f.c q (ac.yes (XJ (by omega)) (ag.mk p D ⟨by omega,by omega,_,s,?_⟩));intro H g;rw [Ol (hb _ (List.getElem_mem j))]at g;obtain⟨c,n,G,t,z,B,_⟩:=xy.push a (UInt8.ofNat items[i].toNat) g rfl b.size (by omega) (by decide);refine⟨c.a,c.n,c.c,n,t,Ar.nat (i+1) rfl (by omega) (E (c,n) ⟨?_,by show c.n=i+1;omega,B _ b⟩)⟩;have e:rO (items.take (i+1))=rO (items.take i)++ [UInt8.ofNat items[i].toNat]:=by
   unfold rO;rw [List.take_add_one,XK j,List.map_append];rfl
  rw [e];exact z
 ·rintro⟨f,q⟩ ⟨a,d,b⟩;change q.ownsRow w.heap.size kI 1 f.v f.n _ at a;rw [List.take_length]at a;exact m _ f.a f.n f.c q (ac.no (XZ (by omega)) ⟨_,q,eQ (P:=Tryz.prog) gc vP m' (by rw [←kU];exact a),rfl,b⟩)
theorem pu (V:Voc) (x:Int) (r:List Int):V.encP (x::r)=if x<0 then [V.sp.getD (-1-x).toNat 0]else after V.ms V.ms.length (x::r):=rfl
def Gm (s:am) (p:List Int):Prop:=(∃x,p= [x]∧x<0∧ -(s.specials.length:Int)≤x)∨(p≠ []∧∀x∈p,0≤x∧x<256)
theorem uv (w:World) (v:Nat) (c:Array Value) (tp bp mp:Nat) (h:iv w v c tp bp mp) (s:am) (T:List aX) (x:bk) (hP:bZ w s T x tp bp mp) (A:Option Addr) (C:Nat) (p:List Int) (hr:Rw an 1 w A p) (hp:Gm s p) (hl:p.length≤100000):
  CP 225 #[.pointer (some ⟨v,0,none⟩),.slice A p.length C] w fun e w'=>∃l:Sl,e= .returned l.v∧l.n=((ap s T).encP p).length∧w'.ownsRow w.heap.size aT 1 l.v l.n (((ap s T).encP p).flatMap an)∧ZH w w':=by
 refine aJ (Bx (some ⟨v,0,none⟩) A p.length C w (fun u w'=>∃l:Sl,u=l.v∧l.n=((ap s T).encP p).length∧w'.ownsRow w.heap.size aT 1 l.v l.n (((ap s T).encP p).flatMap an)∧ZH w w') ?_) (by rintro v w' ⟨l,rfl,h⟩;exact⟨l,rfl,h⟩);have f:0<p.length:=by
  rcases hp with⟨x,rfl,_⟩ |⟨h,_⟩
  ·exact Nat.succ_pos _
  ·exact List.length_pos_iff.2 h
 obtain⟨a,P,O⟩:=a_ hr f rfl;refine ag.mk a P ⟨by decide,by omega,_,O,ac.mk (fun i=>?_) fun i=>?_⟩
 ·have i:=XQ i;rcases hp with⟨y,rfl,q,R⟩ |⟨_,b⟩
  ·intro J D;have j:ZH w J:=by subst D;exact aU w
   obtain⟨N,z,F⟩:=a_ (hr.on j) f rfl;have G:=hP.few;refine ag.mk N z ⟨by decide,by simp,_,F,(eD (h.on j)).mono ?_⟩;rintro e E ⟨rfl,Q⟩;subst E;refine⟨_,rfl,⟨F,trivial⟩,(BH J mp s.specials (hP.on j).marks (by omega) _ (by show -1000000000000≤y;omega)).mono ?_⟩;rintro e n ⟨rfl,g⟩;refine⟨_,_,rfl,?_⟩;intro K m;have t:ZH n K:=by subst m;exact ah _ _
   have b:=ae (ae j g) t;have o:(ap s T).encP [y]= [((iK s.specials y).map (·.1)).getD 0]:=by
    rw [pu,if_pos q,iK,if_pos q];show [(s.specials.map (·.1)).getD (-1-y).toNat 0]=_;rw [List.getD,List.getElem?_map]
   refine⟨⟨some (nb n),1,1⟩,rfl,by rw [o];rfl,?_,b⟩;rw [o];have S:=(ae j g).size;subst m;exact⟨rfl,.inr ⟨n.heap.size,1,_,rfl,S,aq _ _,XV _,by unfold maxLen;omega,rfl,rfl⟩⟩
  ·exact absurd (b _ (List.getElem_mem f)).1 (by omega)
 ·have i:=XX i;rcases hp with⟨y,rfl,q,_⟩ |⟨k,b⟩
  ·exact absurd q i
  ·refine(fh h).mono ?_;rintro e E ⟨rfl,Q⟩;subst E;refine⟨_,rfl,(xB w A C p hr hl b).mono ?_⟩;rintro e n ⟨rfl,g⟩;have d:=hP.on g;have B:=rA hP.ok;refine⟨_,rfl,(lG n tp T d.tab d.ok.sound d.ok.pos (rO p) (by unfold rO;rw [List.length_map];exact hl)).mono ?_⟩;rintro e K ⟨L,U,M,rfl,I,H,t⟩;have o:fD T (rO p)=(ap s T).encP p:=by
    rw [oG hP.ok,G7 b]
    match p,k,b with
    |y::r,_,b=>
     rw [pu,if_neg (by have:=(b y List.mem_cons_self).1;omega)];rfl
   rw [o]at I H;exact⟨_,_,_,rfl,⟨L,U,M⟩,rfl,H,aS I g.size,ae g t⟩
theorem pw (w:World) (A A2:Option Addr) (C C2:Nat) (xs ys:List Int) (hr:Rw an 1 w A xs) (hr2:Rw an 1 w A2 ys) (hl:xs.length≤1000000000):
  CP 375 #[.slice A xs.length C,.slice A2 ys.length C2] w fun e w'=>e= .returned (.bool (decide (xs=ys)))∧ZH w w':=by
 refine aJ (Am A xs.length C A2 ys.length C2 w (fun u w'=>u= .bool (decide (xs=ys))∧ZH w w') ?_) (by rintro v w' ⟨rfl,h⟩;exact⟨rfl,h⟩);refine ac.mk (fun c=>⟨?_,Below.refl _ _⟩) fun d=>?_
 ·have c:¬(xs.length:Int)=(ys.length:Int):=by simpa using c
  rw [XZ fun e=>c (by rw [e])]
 ·have d:(xs.length:Int)=(ys.length:Int):=by simpa using d
  intro I r;have p:=aZ (α:=World) xs.length (fun i q=>(∀j,j<i→xs[j]? =ys[j]?)∧ZH w q) (fun i q=>∀f,I [.int .i64 (i:Int),.bool f] q) w ⟨fun j g=>absurd g (Nat.not_lt_zero j),Below.refl _ _⟩ ?_ ?_
  ·exact p _
  ·rintro i s z q ⟨o,m⟩ f;refine r _ f q (ac.yes (XJ (by omega)) ?_);intro t n;have a:=ae m (show ZH q t by subst n;exact aU q);obtain⟨B,k,x⟩:=a_ (hr.on a) s rfl;obtain⟨D,l,y⟩:=a_ (hr2.on a) (show i<ys.length by omega) rfl;refine ag.mk B k ⟨by omega,by omega,_,x,ag.mk D l ⟨by omega,by omega,_,y,ac.mk (fun b=>⟨?_,a⟩) fun b=>?_⟩⟩
   ·have b:¬xs[i]=ys[i]:=by simpa using b
    rw [XZ fun e=>b (by subst e;rfl)]
   ·have b:xs[i]=ys[i]:=by simpa using b
    refine Ar.nat (i+1) rfl (by omega) (z t ⟨fun j g=>?_,a⟩ _);by_cases e:j=i
    ·subst e;rw [XK s,XK (by omega),b]
    ·exact o j (by omega)
  ·rintro q ⟨o,m⟩ f;refine r _ f q (ac.no (XZ (by omega)) ⟨?_,m⟩);rw [XJ];apply List.ext_getElem?;intro j;by_cases g:j<xs.length
   ·exact o j g
   ·rw [List.getElem?_eq_none_iff.2 (by omega),List.getElem?_eq_none_iff.2 (by omega)]
theorem qU (w:World) (v:Nat) (s:am) (T:List aX) (hV:aW w v s T) (A:Option Addr) (C:Nat) (ids:List Int) (hr:Rw an 1 w A ids) (hA:ids≠ []→∀p,A=some p→p.block≠v) (hC:ids.length≤C) (hl:ids.length≤1000000)
  (hright:∀(m:Nat) (A':Option Addr) (C':Nat) (q:World),aW q v s T→1≤m→m≤ids.length→m≤C'→Rw an 1 q A' (ids.take m)→(∀p,A'=some p→p.block≠v)→CP 374 #[.agg #[.pointer (some ⟨v,0,none⟩)],.slice A' m C'] q fun e q'=>e= .returned (.bool (decide ((ap s T).Canon (ids.take m))))∧aW q' v s T∧aD v q q'):
  CP 373 #[.agg #[.pointer (some ⟨v,0,none⟩)],.slice A ids.length C] w fun e w'=>∃o,e= .returned (wO o)∧cN (ap s T) ids o∧aW w' v s T∧aD v w w':=by
 refine aJ (yM (some ⟨v,0,none⟩) A ids.length C w (fun u w'=>∃o,u=wO o∧cN (ap s T) ids o∧aW w' v s T∧aD v w w') ?_) (by rintro v w' ⟨o,rfl,h⟩;exact⟨o,rfl,h⟩);intro H F;have L:ZH w H:=by subst F;exact ah _ _
 have P:∃W,H.heap[w.heap.size]? =some (.cells #[.pointer (some ⟨v,0,none⟩)] W (0,0)):=⟨_,by subst F;exact aq _ _⟩;obtain⟨W,P⟩:=P;have Z:=hV.lt;intro I R;have G:∀(d b f:Nat) (q:World),f-b≤d→b≤f→f≤ids.length→(ap s T).Canon (ids.take b)→(f=ids.length∨¬(ap s T).Canon (ids.take (f+1)))→aW q v s T→aD v H q→I [.int .i64 (f:Int),.int .i64 (b:Int)] q:=by
  have t:∀(b:Nat) (q:World),b≤ids.length→(ap s T).Canon (ids.take b)→(b=ids.length∨¬(ap s T).Canon (ids.take (b+1)))→aW q v s T→aD v H q→I [.int .i64 (b:Int),.int .i64 (b:Int)] q:=by
   intro b q z l k g r;have U:=(aD.of_below L).trans r;refine R _ _ _ (ac.no (XZ (by omega)) (ac.mk (fun e=>?_) fun e=>?_))
   ·have e:(b:Int)=(ids.length:Int):=by simpa using e
    refine⟨none,rfl,?_,g,U⟩;rw [show b=ids.length by omega,List.take_length]at l;exact l
   ·have e:¬(b:Int)=(ids.length:Int):=by simpa using e
    refine⟨some b,rfl,⟨by omega,l,?_⟩,g,U⟩;rcases k with k |k
    ·omega
    ·exact k
  intro d;induction d with
  |zero=>
   intro b f q Y z i l k g r;obtain rfl:b=f:=by omega
   exact t b q i l k g r
  |succ d ihd=>
   intro b f q Y z i l k g r;by_cases e:b=f
   ·subst e;exact t b q i l k g r
   refine R _ _ _ (ac.yes (XJ (by omega)) ?_);intro J S;have y:IntKind.wrap .i64 (Int.tdiv ((b+f:Nat):Int) 2)=(((b+f)/2:Nat):Int):=by
    rw [show Int.tdiv ((b+f:Nat):Int) 2=(((b+f)/2:Nat):Int)from rfl];exact cL (by show(-9223372036854775808:Int)≤_;omega) (by show _≤(9223372036854775807:Int);omega)
   refine Ar.nat (b+f) (by omega) (by omega) ⟨by decide,?_⟩;rw [y];obtain⟨c,B⟩:∃c,c=(b+f)/2:=⟨_,rfl⟩;rw [←B];intro V O;have Q:ZH q V:=by subst O;exact aU q
   have j:=r.trans (aD.of_below Q);have D:ids≠ []:=by rintro rfl;simp at i;omega
   have n:=(((hr.on L).touch j hA).cut 0 C hC).take (c+1);rw [List.drop_zero]at n;refine⟨_,⟨aQ (j.held (by omega) P),trivial⟩,Ar.nat (c+1) rfl (by omega) ⟨by omega,by omega,by omega,trivial,trivial,?_⟩⟩;refine(hright (c+1) _ (((C:Nat):Int).toNat- (0:Int).toNat) V (g.on Q) (by omega) (by omega) (by show c+1≤C-0;omega) n (fun p K=>?_)).mono ?_
   ·cases A with
    |none=>
     obtain⟨p',N,_⟩:=hr 0 ids[0] (XK (List.length_pos_iff.2 D));cases N
    |some a=>
     have:=hA D a rfl;unfold bB at K;split at K
     ·cases K;exact this
     ·cases K;rw [ay];exact this
   rintro e X ⟨rfl,x,t5⟩;have E:=j.trans t5;refine⟨_,rfl,ac.mk (fun M=>?_) fun M=>?_⟩
   ·exact Ar.nat (c+1) rfl (by omega) (S _ _ _ (ihd (c+1) f X (by omega) (by omega) i (XQ M) k x E))
   ·exact S _ _ _ (ihd b c X (by omega) (by omega) (by omega) l (.inr (XX M)) x E)
 exact G ids.length 0 ids.length H (by omega) (Nat.zero_le _) (XV _) (vM _) (.inl rfl) (hV.on L) (aD.of_below (Below.refl _ _))
theorem td (w:World) (s:Bs) (hs:s.length≤100000):
  CP 168 #[.string (str s)] w fun e w'=>∃l:Sl,e= .returned l.v∧l.n=s.length∧w'.ownsRow w.heap.size aT 1 l.v l.n ((bf s).flatMap an)∧ZH w w':=by
 refine aJ (zN (str s) w (fun u w'=>∃l:Sl,u=l.v∧l.n=s.length∧w'.ownsRow w.heap.size aT 1 l.v l.n ((bf s).flatMap an)∧ZH w w') ?_) (by rintro v w' ⟨l,rfl,h⟩;exact⟨l,rfl,h⟩);intro I m;have k:=aZ (α:=Sl×World) s.length (fun i y=>y.2.ownsRow w.heap.size aT 1 y.1.v y.1.n ((bf (s.take i)).flatMap an)∧y.1.n=i∧ZH w y.2) (fun i y=>I [.int .i64 (i:Int),y.1.v] y.2) (cW,w) ⟨bE _ _ _ _ an,rfl,Below.refl _ _⟩ ?_ ?_
 ·exact k
 ·rintro i n z ⟨f,q⟩ ⟨a,b,d⟩;change q.ownsRow w.heap.size aT 1 f.v f.n _ at a;change f.n=i at b;change ZH w q at d;refine m _ f.a f.n f.c q (ac.yes (XJ (by rw [aP];omega)) ⟨by omega,by rw [aP];omega,?_⟩);intro B g;have j:dM (str s) (i:Int)=((s[i].toNat:Nat):Int):=by
   unfold dM;show((s.toArray[(i:Int).toNat]?).map _).getD 0=_;rw [show((i:Int)).toNat=i from rfl,List.getElem?_toArray,XK n];rfl
  have x:=s[i].toNat_lt;rw [j,cL (by show(-9223372036854775808:Int)≤_;omega) (by show _≤(9223372036854775807:Int);omega)]at g;obtain⟨c,o,A,p,r,t,_⟩:=co.push a ((s[i].toNat:Nat):Int) g rfl d.size (by omega) (by decide);refine⟨c.a,c.n,c.c,o,p,Ar.nat (i+1) rfl (by omega) (z (c,o) ⟨?_,by show c.n=i+1;omega,t _ d⟩)⟩;have e:bf (s.take (i+1))=bf (s.take i)++ [((s[i].toNat:Nat):Int)]:=by
   unfold bf;rw [List.take_add_one,XK n,List.map_append];rfl
  rw [e];exact r
 ·rintro⟨f,q⟩ ⟨a,b,d⟩;change q.ownsRow w.heap.size aT 1 f.v f.n _ at a;rw [List.take_length]at a;exact m _ f.a f.n f.c q (ac.no (XZ (by rw [aP];omega)) ⟨f,rfl,b,a,d⟩)
theorem vT (w:World) (v:Nat) (c:Array Value) (tp bp mp:Nat) (h:iv w v c tp bp mp) (s:am) (T:List aX) (x:bk) (hP:bZ w s T x tp bp mp) (id:Int):
  CP 113 #[.pointer (some ⟨v,0,none⟩),.int .i64 id] w fun e w'=>∃l:Sl,e= .returned (.tuple #[l.v,.bool (bY s T id)])∧(bY s T id=true→l.n=((ap s T).items id).length∧w'.ownsRow w.heap.size aT 1 l.v l.n (((ap s T).items id).flatMap an))∧ZH w w':=by
 refine aJ (x_ (some ⟨v,0,none⟩) id w (fun u w'=>∃l:Sl,u= .tuple #[l.v,.bool (bY s T id)]∧(bY s T id=true→l.n=((ap s T).items id).length∧w'.ownsRow w.heap.size aT 1 l.v l.n (((ap s T).items id).flatMap an))∧ZH w w') ?_) (by rintro v w' ⟨l,rfl,h⟩;exact⟨l,rfl,h⟩);have p:=hP.few;have b:(ap s T).place id=fA s.specials id:=rfl;refine ag.mk _ rfl ⟨_,by rw [kD w v h.blk];exact h.c8,(gM w mp s.specials hP.marks (by omega) id).mono ?_⟩;rintro e C ⟨rfl,A⟩;subst C;refine⟨_,_,rfl,ac.mk (fun f=>?_) fun f=>?_⟩
 ·obtain⟨i,q⟩:=Option.isSome_iff_exists.1 f;intro D j;have t:ZH w D:=by subst j;exact ah _ _
  have a:bY s T id=true:=by
   unfold bY;exact XJ (.inl (kr.1 f))
  have m:(ap s T).items id= [-1- (i:Int)]:=by
   unfold Voc.items;rw [b,q]
  refine⟨⟨some (nb w),1,1⟩,by rw [a],fun _=>⟨by rw [m];rfl,?_⟩,t⟩;rw [m];rw [q]at j;subst j;exact⟨rfl,.inr ⟨w.heap.size,1,_,rfl,XV _,aq _ _,XV _,by unfold maxLen;omega,rfl,rfl⟩⟩
 ·refine ag.mk _ rfl ⟨_,by rw [kD w v h.blk];exact h.c6,(gQ w tp T hP.tab id).mono ?_⟩;rintro e E ⟨rfl,A⟩;subst E;have g:fA s.specials id=none:=by
   cases hm:fA s.specials id with
   |none=>rfl
   |some i=>rw [hm]at f;cases f
  have a:bY s T id=decide (bH T id):=by
   unfold bY;have:id∉s.specials.map (·.1):=fun e=>by have:=(show(fA s.specials id).isSome=true from kr.2 e);rw [this]at f;cases f
   exact decide_eq_decide.2 ⟨fun h=>h.resolve_left this,.inr⟩
  have n:(if bH T id then bj T id else []).length≤64:=by
   split
   ·next d=>
    obtain⟨y,B,o⟩:=ee d;rw [o];exact hP.ok.short y (List.mem_of_getElem? B)
   ·exact Nat.zero_le _
  refine⟨_,_,rfl,(td w _ (by omega)).mono ?_⟩;rintro e F ⟨l,rfl,k,r,z⟩;refine⟨_,_,_,rfl,l,by rw [a],fun d=>?_,z⟩;rw [a,decide_eq_true_eq]at d;rw [if_pos d]at r k;have m:(ap s T).items id=bf (bj T id):=by
   unfold Voc.items;rw [b,g];rfl
  rw [m];exact⟨by rw [k];simp [bf],r⟩
theorem rp {α:Type} {P:Program} {g:Operand} {ps:Array Tmp} {assign body:Code} {Q:Exit→Act→World→Prop} {a:Act} {w:World} {n:Nat}
  {gf:Nat} {lb:Array Value} (hg:a.eval g= .func (.func gf) #[] lb) (eg:∀args w,(callFunc gf args).run P w= .ok (.enter gf args) w)
  {encs:α→Array Value} (x0:α) (last:α→Prop) (hps:∀i,(encs i).size=ps.size)
  (R R':α→World→Prop) (hRp:∀i W k o o',R i W→w.heap.size≤k→W.heap[k]? =some o→o.isCells=false→R i (W.putObj k o'))
  (hRp':∀i W k o o',R' i W→w.heap.size≤k→W.heap[k]? =some o→o.isCells=false→R' i (W.putObj k o'))
  (h0:∀o o',R x0 ((w.alloc o).alloc o'))
  (hseq:∀(l:Nat) (W:World) (Keep:World→Prop),(∀W W',Keep W→KeepsOthers W W'→Keep W')→
   (∀i W1,¬last i→R i W1→Keep W1→YieldAt Fence.wide 0 P l (encs i) W1 fun e W'=>e= .returned (.bool true)∧R' i W'∧Keep W')→R x0 W→Keep W→
   CallsIn Fence.wide 0 P gf (#[.func (.yield l) #[] #[]]++lb) W fun e W'=>(∃v,e= .returned v)∧(∃x,last x∧R x W')∧Keep W')
  (a₁:α→Act)
  (hassign:∀(l:Nat) (i:α) (W:World) (K:Act→World→Prop),K (a₁ i) W→
   assign.wpIn (Fence.wide.inRound l) 0 P (Exit.then K (fun _ _ _=>False)) {tmps:=(ps.zip (encs i)).foldl (fun t (p,v)=>t.setIfInBounds p v) a.tmps,defers:=[]} W)
  (hbody:∀(l:Nat) (i:α) (W:World),¬last i→R i W→body.wpIn (Fence.wide.inRound l) 0 P (fun e _ W'=>e= .normal∧KeepsOthers W W'∧R' i W') (a₁ i) W)
  (hdone:∀(D:Nat) (x:α) (W:World),w.heap.size≤D→last x→R x W→W.heap[D]? =some (.deferred (some []))→Q .normal {a with defers:={target:=.collected D,args:=#[]}::a.defers} W):
  (Code.rangeFunc g ps assign body).wpIn Fence.wide 0 P Q a w:=by
 refine wpIn_rangeFunc ?_;intro fn s;obtain⟨c,b⟩:∃c:LoopState→Loop,c=fun I=>{state:=I,pending:=none,fn,tmps:=a.tmps,params:=ps,assign,body,defers:=w.heap.size}:=⟨_,rfl⟩;obtain⟨W1,d⟩:∃W1,(w.alloc (.deferred (some []))).alloc (.loop (c .ready))=W1:=⟨_,rfl⟩;have r:W1.heap[w.heap.size+1]? =some (.loop (c .ready)):=by
  rw [←d];have:=World.alloc_heap_new (w.alloc (.deferred (some []))) (.loop (c .ready));rwa [World.size_alloc]at this
 have q:W1.heap[w.heap.size]? =some (.deferred (some [])):=by
  rw [←d];exact(Below.heap_alloc _ _ _ (by simp)).trans (World.alloc_heap_new w _)
 refine⟨w.heap.size+1,[{target:=.collected w.heap.size,args:=#[]}],W1,{target:=.fn (.func gf) lb,args:=#[.func (.yield (w.heap.size+1)) #[] #[]]},W1,gf,
  #[.func (.yield (w.heap.size+1)) #[] #[]]++lb,W1,?_,?_,?_,?_,fun h=>(by cases h),?_⟩
 ·rw [←d,b];exact run_enterLoop_outer _ _ _ _ _
 ·simp only [resolve,hg];simp [go_sem]
 ·intro N _;trivial
 ·simp [invoke,go_sem,eg]
 ·refine(hseq (w.heap.size+1) W1 (fun W=>W.heap[w.heap.size+1]? =some (.loop (c .ready))∧W.heap[w.heap.size]? =some (.deferred (some [])))
   (fun W W' h k=>⟨k.same _ _ h.1 rfl,k.same _ _ h.2 rfl⟩) ?_ (by rw [←d];exact h0 _ _) ⟨r,q⟩).mono ?_
  ·rintro i W G B ⟨f,u⟩;have A:w.heap.size+1<W.heap.size:=(XY.1 f).1;have F:=run_yield (P:=P) (args:=encs i) f (by rw [b];exact hps i);rw [b]at F;refine⟨fn,_,assign,body,F,roundIn_of_wpIn s (hassign _ i W _ ⟨_,run_beginRound f (by rw [b]),?_⟩)⟩;have z:(W.putObj (w.heap.size+1) (.loop {c .ready with state:=.busy})).heap[w.heap.size+1]? =some (.loop {c .ready with state:=.busy}):=World.putObj_heap_same A;have y:(W.putObj (w.heap.size+1) (.loop {c .ready with state:=.busy})).heap[w.heap.size]? =some (.deferred (some [])):=(World.putObj_heap_other (by omega)).trans u;refine wpIn_mono (hbody _ i _ G (hRp _ _ _ _ _ B (by omega) f rfl)) ?_;rintro e M L ⟨rfl,m,C⟩;have j:=m.same _ _ z rfl;refine⟨_,_,run_endRound none j,rfl,hRp' _ _ _ _ _ C (by omega) j rfl,?_,(World.putObj_heap_other (by omega)).trans (m.same _ _ y rfl)⟩;rw [b];exact World.putObj_heap_same (XY.1 j).1
  ·rintro e J ⟨⟨v,rfl⟩,⟨x,H,B⟩,f,u⟩;have E:=run_endLoop (P:=P) f (by rw [b];simp);rw [b]at E;exact⟨none,_,E,hdone _ x _ (XV _) H (hRp _ _ _ _ _ B (by omega) f rfl) ((World.putObj_heap_other (by omega)).trans u)⟩
open Go Go.RowKit Go.Shelf
attribute [local go_sem] Oper.semAt_some
abbrev Pl:=Nat×Sl
def jV (k:Nat) (x:Pl):Pl:=(x.1+k,⟨bB x.2.a k x.2.c 1,x.2.n-k,x.2.c-k⟩)
structure NS (w:World) (v tp bp mp Bi Bv:Nat) (c:Array Value) (s:am) (items:List Int) (x:Pl):Prop where
 box:w.heap[Bi]? =some (.cells #[x.2.v] bQ (0,0))
 vbox:w.heap[Bv]? =some (.cells #[.pointer (some ⟨v,0,none⟩)] 31 (0,0))
 blk:iv w v c tp bp mp
 bd:so w bp s.classes s.joins
 row:Rw an 1 w x.2.a (items.drop x.1)
 len:x.2.n=(items.drop x.1).length
 cap:x.2.n≤x.2.c
set_option maxHeartbeats 2000000 in
theorem xC (v tp bp mp Bi Bv:Nat) (c:Array Value) (s:am) (T:List aX) (hcl:∀c∈s.classes,bh c=true) (items:List Int) (hl:items.length≤1000000) (hok:∀x∈items,x<256)
  (l:Nat) (R R':Pl→World→Prop) (Keep:World→Prop) (hK:∀W W',Keep W→KeepsOthers W W'→Keep W')
  (hR:∀x W,R x W→NS W v tp bp mp Bi Bv c s items x)
  (hRb:∀x W W',R x W→ZH W W'→R x W')
  (hR':∀x W,R' x W→W.heap[Bi]? =some (.cells #[x.2.v] bQ (0,0)))
  (hRn:∀x W k,k=fu (ap s T).cut (items.drop x.1)→R' x W→R (jV k x) (W.setCell ⟨Bi,0,none⟩ (jV k x).2.v))
  (hY:∀x W1 k,k=fu (ap s T).cut (items.drop x.1)→R x W1→x.2.n≠0→Keep W1→YieldAt Fence.wide 0 Tryz.prog l #[.slice x.2.a k k] W1 fun e W'=>e= .returned (.bool true)∧R' x W'∧Keep W')
  (x0:Pl) (W:World) (h0:R x0 W) (hk0:Keep W):
  CallsIn Fence.wide 0 Tryz.prog 260 #[.func (.yield l) #[] #[],.pointer (some ⟨Bi,0,none⟩),.pointer (some ⟨Bv,0,none⟩)] W fun e W'=>(∃v,e= .returned v)∧(∃x:Pl,x.2.n=0∧R x W')∧Keep W':=by
 refine callsIn_of_wp Tryz.func260 rfl trivial ?_ rfl;simp only [Tryz.ntmps260,List.size_toArray,List.length_cons,List.length_nil,Nat.reduceAdd,Nat.reduceSub,Array.replicate_succ,Array.replicate_zero,List.push_toArray,List.append_toArray,List.nil_append,List.cons_append]
 gi_wp2
 gi_loopw [4] (fun _ wr=>∃x:Pl,R x wr∧Keep wr) (fun _ wr=>match wr.cell? ⟨Bi,0,none⟩with |some (.slice _ n _)=>n |_=>0)
 case atStart=>exact⟨x0,h0,hk0⟩
 case round=>
  obtain⟨x,hx,hk⟩:=hrel;have hI:=hR x wr hx;obtain⟨i,⟨a,n,cp⟩⟩:=x;have hb1:wr.cell? ⟨Bi,0,none⟩=some (.slice a n cp):=by simp [World.cell?,hI.box,Sl.v]
  have hb2:wr.cell? ⟨Bv,0,none⟩=some (.pointer (some ⟨v,0,none⟩)):=by simp [World.cell?,hI.vbox]
  by_cases hn:n=0
  ·subst hn
   gi_wp2
   go_end0
   exact⟨⟨_,rfl⟩,⟨_,rfl,hx⟩,hk⟩
  ·have hlen:(items.drop i).length=n:=hI.len.symm;have hn0:0<n:=by omega
   obtain⟨k,hkk⟩:∃k,fu (ap s T).cut (items.drop i)=k:=⟨_,rfl⟩;have hne:items.drop i≠ []:=fun e=>hn (by rw [←hlen,e];rfl);have hk1:=Ih (ap s T).cut hne;have hk2:=rF (ap s T).cut (items.drop i);have hcap:n≤cp:=hI.cap;have hnl:n≤1000000:=by rw [←hlen,List.length_drop];omega
   rw [hkk]at hk1;rw [hkk,hlen]at hk2;have hc:=zQ wr v c tp bp mp hI.blk s T hI.bd hcl a cp (items.drop i) hI.row hne (by omega) (fun x hx=>hok x (List.mem_of_mem_drop hx));rw [hkk,hlen]at hc;have hc:=(callsIn_wide (n:=0)).2 hc
   gi_wp2
   refine⟨trivial,rfl,?_⟩;refine CallsIn.mono hc ?_;rintro e w1 ⟨rfl,b1⟩;have hx1:=hRb _ _ _ hx b1;have hI1:=hR _ _ hx1;have hkp1:=hK _ _ hk (KeepsOthers.of_grownBy (row:=none) ⟨b1.os,b1.tape,b1.output,b1.size,fun j hj _=>b1.block j hj⟩ (fun j o e=>by cases e));have hb0:=hb1;have hb1:w1.cell? ⟨Bi,0,none⟩=some (.slice a n cp):=by simp [World.cell?,hI1.box,Sl.v]
   obtain⟨fn,tmps,assign,body,hy,hRd⟩:=hY _ w1 k hkk.symm hx1 hn hkp1;dsimp only at hy
   gi_wp2
   refine⟨rfl,hRd.mono ?_⟩;rintro e W3 ⟨rfl,hR3,hk3⟩;have hb3:=hR' _ _ hR3;have hc3:W3.cell? ⟨Bi,0,none⟩=some (.slice a n cp):=by simp [World.cell?,hb3,Sl.v]
   have hf3:W3.frozen? ⟨Bi,0,none⟩=false:=by simp [World.frozen?,hb3]
   gi_wp2
   have hR4:=hRn _ _ k hkk.symm hR3;have hk4:=hK _ _ hk3 (KeepsOthers.setCell W3 ⟨Bi,0,none⟩ (jV k (i,⟨a,n,cp⟩)).2.v);have e4:(jV k (i,⟨a,n,cp⟩)).2.v=Value.slice (if cp=k then a else Option.map (fun x=>x.add k) a) (n-k) (cp-k):=by
    unfold jV bB Sl.v;dsimp only;rw [Nat.mul_one]
   rw [e4]at hR4 hk4;refine⟨⟨_,hR4,hk4⟩,?_⟩;obtain⟨b',hb'⟩:∃b',Value.slice b' (n-k) (cp-k)=Value.slice (if cp=k then a else Option.map (fun x=>x.add k) a) (n-k) (cp-k):=⟨_,rfl⟩;rw [←hb',World.cell?_setCell_same' _ _ _ (by rw [hc3];rfl),hb0];show n-k<n;omega
theorem BT (V:Voc) (p:List Int):(V.encP p).length≤p.length:=by
 cases p with
 |nil=>exact XV _
 |cons x r=>
  rw [pu];split
  ·simp
  ·exact iw V.ms (x::r) _ (XV _)
theorem oO (V:Voc) (Z:List Int):(V.encode Z).length≤Z.length:=by
 have:=nK (f:=V.encP) (BT V) (chop V.cut Z);rw [(dR Z).2]at this;exact this
theorem Fi (V:Voc) {l:List Int} (hne:l≠ []):V.encode l=V.encP (l.take (fu V.cut l))++V.encode (l.drop (fu V.cut l)):=by
 unfold Voc.encode;rw [pM _ hne,List.flatMap_cons]
theorem qo {V:Voc}:∀ {x y:Int} {r:List Int},dW V.cut (x::y::r)→∀z∈x::y::r,0≤z
 |x,y,[],⟨h,_⟩,z,hz=>by
  unfold Voc.cut at h;simp at h hz;rcases hz with rfl |rfl<;>omega
 |x,y,u::r,⟨h,h2⟩,z,hz=>by
  have ih:=qo (V:=V) h2;rcases List.mem_cons.1 hz with rfl |hz
  ·unfold Voc.cut at h;simp at h;omega
  ·exact ih z hz
theorem HY {s:am} {T:List aX} {l:List Int} (hne:l≠ []) (hok:∀x∈l,dV s x=true):Gm s (l.take (fu (ap s T).cut l)):=by
 have d:=(dR (cut:=(ap s T).cut) l).1;rw [pM _ hne]at d;obtain⟨b,c⟩:=d.head;have a:∀x∈l.take (fu (ap s T).cut l),dV s x=true:=fun x g=>hok x (List.mem_of_mem_take g);revert b c a;generalize l.take (fu (ap s T).cut l)=p;intro b c a
 match p,b with
 | [x],_=>
  have:=a x List.mem_cons_self;unfold dV at this;have:=XQ this;rcases this with h |h
  ·exact .inr ⟨by simp,fun y e=>by simp at e;subst e;exact h⟩
  ·exact .inl ⟨x,rfl,h.1,h.2⟩
 |x::y::r,_=>
  refine .inr ⟨by simp,fun z f=>?_⟩;have i:=qo (V:=ap s T) c z f;have:=a z f;unfold dV at this;have:=XQ this;omega
end Go.Proofs.YtijbcdiffjjefaaGreatDoor.Eng
