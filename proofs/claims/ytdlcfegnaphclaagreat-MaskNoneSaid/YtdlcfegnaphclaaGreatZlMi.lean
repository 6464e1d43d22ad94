/- Without a vocabulary, a grid, or that of another one: the statement MaskNone; walked by the engine. -/
import Derived.Test.YtdlcfegnaphclaaGreatZlGg
set_option linter.unusedVariables false
set_option linter.unusedSimpArgs false
set_option maxRecDepth 100000
namespace Go.Proofs.YtdlcfegnaphclaaGreat.Eng
open Go Go.RowKit
theorem Rw.pastS {α:Type} {enc:α→List Value} {sz:Nat} {w w':World} {b:Nat} {c:Array Value} {T:TypeId} {fz:Nat×Nat} {a:Option Addr} {xs:List α} (h:Rw enc sz w a xs) (henc:∀x,∃(j:Nat) (s:ByteArray),(enc x)[j]? =some (.string s)) (hb:w.heap[b]? =some (.cells c T fz)) (hc:∀s,Value.string s∉c)
  (hne:∀j,j<w.heap.size→j≠b→w'.heap[j]? =w.heap[j]?) (hs:w.heap.size≤w'.heap.size):Rw enc sz w' a xs:=by
 intro j x hj;obtain⟨p,hp,hlt,hcc⟩:=h j x hj;refine⟨p,hp,by omega,fun k v hk=>?_⟩;have hpb:p.block≠b:=by
  intro e;obtain⟨i,s,h0⟩:=henc x;have:=hcc i _ h0;exact hc s (uh (by rw [ax,ax,e];exact hb) this)
 rw [←hcc k v hk];unfold World.cell?;rw [hne _ (by rw [ax,ax];exact hlt) (by rw [ax,ax];exact hpb)]
theorem aY.apart {w w':World} {v b:Nat} {s s':aq} {T T':List aP} (h:aY w v s T) (h':aY w b s' T') (hvb:v≠b) (t:aH b w w') (m1:s.merges= []) (m2:s.tokens= []) (m4:s.classes= []) (m5:s.joins= []):aY w' v s T:=by
 obtain⟨z0,y,ytp,ybp,ymp,yd,yl,yu,hB⟩:=h';have hb:=hB.blk;obtain⟨w0,x,tp,bp,mp,d,l,uses,hR⟩:=h;have hz:=hR.below.size;let w1:World:={w' with heap:=w'.heap.extract 0 w0.heap.size};have hz1:w1.heap.size=w0.heap.size:=by
  show(w'.heap.extract 0 w0.heap.size).size=_;rw [Array.size_extract];have:=t.size;omega
 have h1:∀k,k<w0.heap.size→w1.heap[k]? =w'.heap[k]? :=by
  intro k hk;show(w'.heap.extract 0 w0.heap.size)[k]? =_;rw [Array.getElem?_extract];rw [if_pos (by have:=t.size;omega),Nat.zero_add]
 have b1:Below w1.heap.size w1 w':=⟨rfl,rfl,rfl,by rw [hz1];have:=t.size;omega,fun k hk=>(h1 k (by omega)).symm⟩;have ht:aH b w0 w1:=⟨t.os.trans hR.below.os,t.tape.trans hR.below.tape,t.output.trans hR.below.output,by omega,fun k hk hne=>by rw [h1 k hk,t.block k (by omega) hne,hR.below.block k hk]⟩;have hp:bu w1 s T x tp bp mp:=by
  by_cases hlt:b<w0.heap.size
  ·have hb0:=hb;rw [hR.below.block b hlt]at hb0;have hne:∀j,j<w0.heap.size→j≠b→w1.heap[j]? =w0.heap[j]? :=fun j hj hn=>ht.block j hj hn;have hc:∀u,Value.string u∉eQ y ytp ybp ymp yd yl yu:=fun u hu=>by simp [eQ,Sl.v]at hu
   have hP:=hR.parts;have nil_:∀ {α:Type} {enc:α→List Value} {sz:Nat} {a:Option Addr} {xs:List α},xs= []→Rw enc sz w1 a xs:=fun e j x hj=>by rw [e]at hj;simp at hj
   refine⟨⟨hP.spec.ranked,hP.spec.n1,nil_ m1,hP.spec.n2,nil_ m2,hP.spec.n3,hP.spec.r3.pastS (fun x=>⟨1,_,rfl⟩) hb0 hc hne ht.size,hP.spec.n4,nil_ m4,hP.spec.n5,nil_ m5⟩,?_,hP.ok,?_,?_,hP.right,hP.ids,hP.nodup⟩
   ·obtain⟨l,mb,mp,most,h1,h2,h3,h4,h5,h6⟩:=hP.tab;exact⟨l,mb,mp,most,dn hb0 ht h1 (by decide),h2,h3.pastS (fun x=>⟨0,_,rfl⟩) hb0 hc hne ht.size,dv hb0 ht h4,dv hb0 ht h5,h6⟩
   ·obtain⟨c2,h1,h2⟩:=hP.bound;exact⟨c2,dn hb0 ht h1 (by decide),h2⟩
   ·obtain⟨l,mi,mt,c2,h1,h2,h3,h4,h5,h6⟩:=hP.marks;exact⟨l,mi,mt,c2,dn hb0 ht h1 (by decide),h2,h3,h4.pastS (fun x=>⟨1,_,rfl⟩) hb0 hc hne ht.size,dv hb0 ht h5,dv hb0 ht h6⟩
  ·exact hR.parts.on ⟨ht.os,ht.tape,ht.output,ht.size,fun k hk=>ht.block k hk (by omega)⟩
 exact⟨w1,x,tp,bp,mp,d,l,uses,hp,b1,by rw [hz1];exact hR.lt,t.held hvb hR.blk,hR.once.imp id fun⟨x1,x2,x3⟩=>⟨x1,x2,gS hb t x3 (by decide)⟩⟩
theorem rN (g:Option Addr) (w:World):CP 33 #[.pointer none,.pointer g] w fun e w'=>e= .returned (.tuple #[.pointer none,.int .i64 1])∧w'=w:=by
 refine aO (ip none g w) ?_;exact ac.yes rfl ⟨rfl,rfl⟩
theorem rD (v:Addr) (w:World):CP 33 #[.pointer (some v),.pointer none] w fun e w'=>e= .returned (.tuple #[.pointer none,.int .i64 1])∧w'=w:=by
 refine aO (ip (some v) none w) ?_;exact ac.no rfl (ac.yes rfl ⟨rfl,rfl⟩)
theorem qA (w:World) (v g:Nat) (s s':aq) (T T':List aP) (hV:aY w v s T) (hG:nD w g s' T') (hasc:(s.specials.map (·.1)).Pairwise (·< ·)) (hne:(bk s' T').length≠(bk s T).length):
  CP 33 #[.pointer (some ⟨v,0,none⟩),.pointer (some ⟨g,0,none⟩)] w fun e w'=>e= .returned (.tuple #[.pointer none,.int .i64 1])∧Below w.heap.size w w':=by
 refine aO (ip (some ⟨v,0,none⟩) (some ⟨g,0,none⟩) w) ?_;refine ac.no rfl (ac.no rfl ((ki w g s' T' hG).mono ?_));rintro e w1 ⟨rfl,hw1⟩;subst w1;refine⟨_,rfl,(fk w v s T hV hasc).mono ?_⟩;rintro e w2 ⟨l,rfl,ho,b2⟩;have hln:l.n=(bk s T).length:=(Rw.of_own ho (fun _=>rfl) (by decide)).2;exact⟨l.a,l.n,l.c,rfl,ac.yes (by rw [hln];simp;omega) ⟨rfl,b2⟩⟩
theorem fc (A:Option Addr) (N C:Nat) (w:World):CP 59 #[.pointer none,.slice A N C] w fun e w'=>e= .returned (.tuple #[.int .i64 0,.int .i64 1])∧Below w.heap.size w w':=by
 refine aO (oo none A N C w) ?_;intro w1 hw1;have b1:Below w.heap.size w w1:=by subst hw1;exact ai _ _
 have l1:w1.heap[w.heap.size]? =some (.cells #[.pointer none] pW (0,0)):=by subst hw1;exact am _ _
 exact⟨_,aN l1,ac.yes rfl ⟨rfl,b1⟩⟩
theorem kN (A:Option Addr) (N C:Nat) (w:World):CP 14 #[.pointer none,.slice A N C] w fun e w'=>e= .returned (.tuple #[.slice none 0 0,.int .i64 0,.int .i64 1])∧Below w.heap.size w w':=by
 refine aO (nX none A N C w) ?_;refine(fc A N C w).mono ?_;rintro e w1 ⟨rfl,b1⟩;exact⟨_,_,rfl,ac.yes rfl ⟨rfl,b1⟩⟩
theorem sd (t:ByteArray) (A:Option Addr) (N C:Nat) (w:World):CP 15 #[.pointer none,.string t,.slice A N C] w fun e w'=>e= .returned (.tuple #[.slice none 0 0,.int .i64 0,.int .i64 1])∧Below w.heap.size w w':=by
 refine aO (oG none t A N C w) ?_;refine(fc A N C w).mono ?_;rintro e w1 ⟨rfl,b1⟩;exact⟨_,_,rfl,ac.yes rfl ⟨rfl,b1⟩⟩
theorem oW (t:ByteArray) (A:Option Addr) (N C:Nat) (w:World):CP 25 #[.pointer none,.string t,.slice A N C] w fun e w'=>e= .returned (.tuple #[.slice none 0 0,.string ⟨#[]⟩,.int .i64 1])∧Below w.heap.size w w':=by
 refine aO (oU none t A N C w) ?_;refine(fc A N C w).mono ?_;rintro e w1 ⟨rfl,b1⟩;exact⟨_,_,rfl,ac.yes rfl ⟨rfl,b1⟩⟩
theorem rY (A:Option Addr) (N C:Nat) (w:World):CP 16 #[.pointer none,.slice A N C] w fun e w'=>e= .returned (.tuple #[.slice none 0 0,.int .i64 0,.int .i64 1])∧Below w.heap.size w w':=by
 refine aO (xD none A N C w) ?_;refine(kN A N C w).mono ?_;rintro e w1 ⟨rfl,b1⟩;exact⟨_,_,_,_,_,rfl,ac.yes rfl ⟨rfl,b1⟩⟩
theorem ta (t:ByteArray) (A:Option Addr) (N C:Nat) (w:World):CP 34 #[.pointer none,.string t,.slice A N C] w fun e w'=>e= .returned (.bool false)∧Below w.heap.size w w':=by
 refine aO (xK none t A N C w) ?_;refine(fc A N C w).mono ?_;rintro e w1 ⟨rfl,b1⟩;exact⟨_,_,rfl,ac.yes rfl ⟨rfl,b1⟩⟩
def sZ:aq:={}
def sY:aq:={specials:=[(300,[60])]}
theorem Ed:sZ.right=true:=by decide+kernel
theorem EB:sY.right=true:=by decide+kernel
theorem EV:cD sZ= .ok bc:=by
 have h:(match cD sZ with | .ok t=>decide (t=bc) | .error _=>false)=true:=by decide+kernel
 cases hx:cD sZ with
 |error q=>rw [hx]at h;cases h
 |ok t=>rw [hx]at h;rw [of_decide_eq_true h]
theorem Ez:cD sY= .ok bc:=by
 have h:(match cD sY with | .ok t=>decide (t=bc) | .error _=>false)=true:=by decide+kernel
 cases hx:cD sY with
 |error q=>rw [hx]at h;cases h
 |ok t=>rw [hx]at h;rw [of_decide_eq_true h]
theorem B8:(bk sZ bc).length=256:=by decide+kernel
theorem GW:(bk sY bc).length=257:=by decide+kernel
theorem Dc (w:World):cR w ⟨false,cT,cT,cT,cT,cT⟩ sZ:=by
 have none_:∀ {α:Type} {enc:α→List Value} {sz:Nat},Rw enc sz w none []:=fun j x hj=>by simp at hj
 exact⟨rfl,rfl,none_,rfl,none_,rfl,none_,rfl,none_,rfl,none_⟩
theorem BO (w w1:World) (hw1:w1=w.alloc (.cells #[Value.int .i64 300,Value.string (str [60])] mD)):cR w1 ⟨false,cT,cT,⟨some (nb w),1,1⟩,cT,cT⟩ sY:=by
 have l1:w1.heap[w.heap.size]? =some (.cells #[Value.int .i64 300,Value.string (str [60])] mD (0,0)):=by subst hw1;exact am _ _
 have none_:∀ {α:Type} {enc:α→List Value} {sz:Nat},Rw enc sz w1 none []:=fun j x hj=>by simp at hj
 refine⟨rfl,rfl,none_,rfl,none_,rfl,fun j x hj=>?_,rfl,none_,rfl,none_⟩;have hj0:j=0:=by
  have:=(List.getElem?_eq_some_iff.1 hj).1;simp [sY]at this;exact this
 subst hj0;have hx:x=(300,[60]):=by simpa [sY]using hj.symm
 subst hx;refine⟨nb w,rfl,(Array.getElem?_eq_some_iff.1 l1).1,fun k v hk=>?_⟩;rw [Nat.zero_mul,au,af _ _ l1]
 match k,hk with
 |0,hk=>cases hk;rfl
 |1,hk=>cases hk;rfl
set_option maxHeartbeats 1000000 in
theorem qt (id:Int) (t:Bs) (w:World):CP 5 #[.int .i64 id,.string (str t)] w fun e w'=>e= .returned (.bool true)∧Below w.heap.size w w':=by
 refine aO (AY id (str t) w) ?_;refine ac.mk (fun _=>?_) fun _=>?_
 ·refine(fB w).mono ?_;rintro e w1 ⟨rfl,b1⟩;exact⟨_,rfl,rfl,b1⟩
 refine(fB w).mono ?_;rintro e w2 ⟨rfl,b2⟩;refine⟨_,rfl,ac.no rfl ((fb w2 ⟨false,cT,cT,cT,cT,cT⟩ sZ (Dc w2)).mono ?_)⟩;rintro e w4 ⟨u,rfl,b4,hp⟩;rw [if_pos Ed,EV]at hp;obtain⟨v,rfl,hV4,hv⟩:=hp;have hb4:=ae b2 b4;have hz2:=b2.size;refine⟨_,_,_,rfl,?_⟩;intro w5 hw5;have b5:Below w4.heap.size w4 w5:=by subst hw5;exact ai _ _
 have hb5:=ae hb4 b5;refine(fb w5 ⟨false,cT,cT,⟨some (nb w4),1,1⟩,cT,cT⟩ sY (BO w4 w5 hw5)).mono ?_;rintro e w6 ⟨u,rfl,b6,hp⟩;rw [if_pos EB,Ez]at hp;obtain⟨v',rfl,hY6,hv'⟩:=hp;have hb6:=ae hb5 b6;have hV6:=(hV4.on b5).on b6;have hvlt:=hV4.lt;have hz5:=b5.size;have asY:(sY.specials.map (·.1)).Pairwise (·< ·):=List.pairwise_singleton _ _;refine⟨_,_,_,rfl,(ij w6 v sZ bc hV6 List.Pairwise.nil 1048576).mono ?_⟩;rintro e w7 ⟨u,rfl,hV7,t7,hu⟩;rw [B8,if_neg (by decide)]at hu;obtain⟨g,rfl,hG,hg⟩:=hu;have hb7:Below w.heap.size w w7:=hb6.trans (t7.below (by omega) hb6.size);have hY7:=hY6.apart hV6 (by omega) t7 rfl rfl rfl rfl;refine⟨_,_,rfl,(rN _ w7).mono ?_⟩;rintro e w8 ⟨rfl,hw8⟩;subst w8;refine⟨_,_,rfl,(rD _ w7).mono ?_⟩;rintro e w9 ⟨rfl,hw9⟩;subst w9;refine⟨_,_,rfl,(qA w7 v' g sY sZ bc bc hY7 hG asY (by rw [B8,GW];decide)).mono ?_⟩;rintro e w10 ⟨rfl,b10⟩;refine⟨_,_,rfl,?_⟩;intro w11 hw11;have b11:Below w10.heap.size w10 w11:=by subst hw11;exact ai _ _
 have hb11:=ae (ae hb7 b10) b11;refine(kN _ _ _ w11).mono ?_;rintro e w12 ⟨rfl,b12⟩;refine⟨_,_,_,_,_,rfl,?_⟩;intro w13 hw13;have b13:Below w12.heap.size w12 w13:=by subst hw13;exact ai _ _
 have hb13:=ae (ae hb11 b12) b13;refine(sd _ _ _ _ w13).mono ?_;rintro e w14 ⟨rfl,b14⟩;refine⟨_,_,_,_,_,rfl,?_⟩;intro w15 hw15;have b15:Below w14.heap.size w14 w15:=by subst hw15;exact ai _ _
 have hb15:=ae (ae hb13 b14) b15;refine(oW _ _ _ _ w15).mono ?_;rintro e w16 ⟨rfl,b16⟩;refine⟨_,_,_,_,_,rfl,?_⟩;intro w17 hw17;have b17:Below w16.heap.size w16 w17:=by subst hw17;exact ai _ _
 have hb17:=ae (ae hb15 b16) b17;refine(rY _ _ _ w17).mono ?_;rintro e w18 ⟨rfl,b18⟩;have hb18:=ae hb17 b18;refine⟨_,_,_,_,_,rfl,ac.yes rfl (ac.yes rfl (ac.yes rfl (ac.yes rfl (ac.yes rfl (ac.yes rfl (ac.yes rfl ?_))))))⟩;intro w19 hw19;have b19:Below w18.heap.size w18 w19:=by subst hw19;exact ai _ _
 have hb19:=ae hb18 b19;refine(ta _ _ _ _ w19).mono ?_;rintro e w20 ⟨rfl,b20⟩;exact⟨_,rfl,rfl,ae hb19 b20⟩
end Go.Proofs.YtdlcfegnaphclaaGreat.Eng
