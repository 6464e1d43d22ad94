/- Rows of bits, and all tokens' numbers, walked by the engine. -/
import Derived.Test.YtdlcfegnaphclaaGreatZoRb
import Derived.Test.YtdlcfegnaphclaaGreatZoSp
import Derived.Test.YtdlcfegnaphclaaGreatZoTab
set_option linter.unusedVariables false
set_option linter.unusedSimpArgs false
set_option maxRecDepth 100000
namespace Go.Proofs.YtdlcfegnaphclaaGreat.Eng
open Go Go.RowKit
abbrev gC:TypeId:=59
abbrev m':TypeId:=130
theorem zT:Tryz.prog.underlying m'=some (.slice gC):=by kernel_rfl
theorem uJ:(Tryz.prog.info? gC).map (fun i=>(i.zero,i.size,i.bytes))=some (some (.int .u64 0),1,8):=by kernel_rfl
def cY (n:Int):List Value:=[.int .u64 n]
theorem qq:zH cY 1 m' gC 8:=⟨fun _=>rfl,by decide,fun x u hu=>by rw [List.mem_singleton.1 hu];rfl,zT,_,uJ,rfl⟩
theorem sg (w:World) (n:Nat) (hn:n≤1000000):(Instr.makeSlice m' (.int .i64 n) (.int .i64 n)).run Tryz.prog w= .ok (.slice (some (nb w)) n n) (w.alloc (.cells (Array.replicate n (.int .u64 0)) gC)):=by
 obtain⟨i,hi,hz,hs,hb⟩:=info_parts uJ;have:=Go.run_make (P:=Tryz.prog) w m' gC i (.int .u64 0) zT hi hz .i64 .i64 (n:Int) (n:Int) (by omega) (Int.le_refl _) (by rw [hb];omega) (by omega);rw [this];congr 3;rw [hs];apply Array.ext
 ·rw [size_madeCells];simp
 ·intro j h1 h2;simp only [madeCells,Array.getElem_map,Array.getElem_range,Array.getElem_replicate];show(#[Value.int .u64 0]:Array Value)[j%1]! =_;rw [Nat.mod_one];rfl
theorem fW {w:World} {n:Nat} {e:TypeId} (xs:List Value) (hx:xs.length=n) (hn:n≤1000000) {B:Nat} (hB:B≤w.heap.size):(w.alloc (.cells xs.toArray e)).ownsRow B e 1 (.slice (some (nb w)) n n) n xs:=by
 refine⟨by rw [hx,Nat.mul_one],.inr ⟨w.heap.size,n,xs.toArray,rfl,hB,ak _ _,Nat.le_refl _,by unfold maxLen;omega,by rw [List.size_toArray,hx,Nat.mul_one],?_⟩⟩;rw [←hx,Nat.mul_one];exact List.take_length
theorem Cv (i:Nat) (hi:i≤1000000):IntKind.wrap .i64 (Int.tdiv (i:Int) 64)=((i/64:Nat):Int):=by
 have:Int.tdiv (i:Int) 64=((i/64:Nat):Int):=rfl;rw [this];exact dv (by show(-9223372036854775808:Int)≤_;omega) (by show _≤(9223372036854775807:Int);omega)
theorem Ep (i:Nat):Int.tmod (i:Int) 64=((i%64:Nat):Int):=rfl
theorem fJ (x:Nat) (hx:x<2^64):(BitVec.ofInt 64 (x:Int)).toNat=x:=by
 rw [BitVec.ofInt_natCast,BitVec.toNat_ofNat,Nat.mod_eq_of_lt hx]
theorem iK (x:Nat) (hx:x<2^64):IntKind.wrap .u64 (x:Int)=(x:Int):=dv (by show(0:Int)≤_;omega) (by show _≤(18446744073709551615:Int);omega)
theorem Ct (x m:Nat) (hx:x<2^64) (hm:m<64):((IntKind.wrap .u64 ((BitVec.ofInt (IntKind.bits .u64) (Int.fdiv (x:Int) (2^(min ((m:Nat):Int).toNat (IntKind.bits .u64))))&&&BitVec.ofInt (IntKind.bits .u64) 1).toNat:Int):Int)==1)=x.testBit m:=by
 show((IntKind.wrap .u64 ((BitVec.ofInt 64 (Int.fdiv (x:Int) (2^(min m 64)))&&&BitVec.ofInt 64 1).toNat:Int):Int)==1)=_;have h1:Int.fdiv (x:Int) (2^(min m 64))=((x/2^m:Nat):Int):=by
  rw [Nat.min_eq_left (by omega),Int.fdiv_eq_ediv_of_nonneg _ (Int.pow_nonneg (by decide))];simp
 have hd:x/2^m<2^64:=Nat.lt_of_le_of_lt (Nat.div_le_self _ _) hx;rw [h1,BitVec.toNat_and,fJ _ hd];have h2:(BitVec.ofInt 64 1).toNat=1:=by decide
 rw [h2,Nat.and_one_is_mod,iK _ (by omega),Nat.testBit_eq_decide_div_mod_eq];by_cases e:x/2^m%2=1
 ·rw [e];simp
 ·have:x/2^m%2=0:=by omega
  rw [this];simp
theorem GL (x m:Nat) (hx:x<2^64) (hm:m<64):IntKind.wrap .u64 ((BitVec.ofInt (IntKind.bits .u64) (x:Int)|||BitVec.ofInt (IntKind.bits .u64) (IntKind.wrap .u64 ((1:Int)*2^(min ((m:Nat):Int).toNat (IntKind.bits .u64))))).toNat:Int)=((x|||2^m:Nat):Int):=by
 show IntKind.wrap .u64 ((BitVec.ofInt 64 (x:Int)|||BitVec.ofInt 64 (IntKind.wrap .u64 ((1:Int)*2^(min m 64)))).toNat:Int)=_;have hp:2^m<2^64:=Nat.pow_lt_pow_right (by decide) hm;have h1:(1:Int)*2^(min m 64)=((2^m:Nat):Int):=by
  rw [Nat.min_eq_left (by omega),Int.one_mul];simp
 rw [h1,iK _ hp,BitVec.toNat_or,fJ _ hx,fJ _ hp];exact iK _ (Nat.or_lt_two_pow hx hp)
theorem jZ (w:World) (A:Option Addr) (N C n:Nat) (p:Nat→Bool) (hr:Rw cY 1 w A (br n p)) (hN:N=(br n p).length) (hn:n≤100000) (i:Nat) (hi:i<n):
  CP 75 #[.slice A N C,.int .i64 (i:Int)] w fun e w'=>e= .returned (.bool (p i))∧w'=w:=by
 refine aN (BI A N C i w) ?_;unfold MO;rw [Cv i (by omega),Ep];rw [cL]at hN;have hk:i/64< (n+63)/64:=by omega
 obtain⟨q,hq,_,hc⟩:=hr _ _ (oL n p hk);have c0:=hc 0 _ rfl;rw [ax]at c0;refine⟨by decide,ag.mk q hq ⟨by omega,by omega,_,c0,by decide,by omega,?_,rfl⟩⟩;rw [Ct _ _ (nU _ _ _) (Nat.mod_lt _ (by decide)),oE n p hi]
theorem xB (w:World) (B:Nat) (l:Sl) (ws:List Int) (h:w.ownsRow B gC 1 l.v l.n (ws.flatMap cY)) (i x:Nat) (hi:i≤1000000) (hk:i/64<ws.length) (hx:ws[i/64]=(x:Int)) (hlt:x<2^64):
  CP 146 #[.slice l.a l.n l.c,.int .i64 (i:Int)] w fun e w'=>e= .returned (.tuple #[])∧w'.ownsRow B gC 1 l.v l.n ((ws.set (i/64) ((x|||2^(i%64):Nat):Int)).flatMap cY)∧(∀j,l.v.ownBlock≠some j→w'.heap[j]? =w.heap[j]?)∧w'.heap.size=w.heap.size∧Below B w w':=by
 refine aN (yF l.a l.n l.c i w) ?_;rintro w1 rfl;have h1:w.drew.ownsRow B gC 1 l.v l.n (ws.flatMap cY):=kb h;have hls:=LsAt.of_own qq h1;have hn:=hls.n;rw [Cv i hi,Ep];obtain⟨q,hq,c0⟩:=bj hls.r hk rfl;rw [hx]at c0;refine⟨by decide,ag.mk q hq ⟨by omega,by omega,_,c0,by decide,by omega,ag.mk q hq ⟨by omega,by omega,?_⟩⟩⟩;rw [GL x _ hlt (Nat.mod_lt _ (by decide))];refine eX (ju (enc:=cY) (fun _=>rfl) (by decide) (fun y u hu=>by rw [List.mem_singleton.1 hu];rfl) h1 hn hq (i/64) hk _ ?_);intro w' h' hs hz hB;exact⟨rfl,h',hs,hz,hB _ _ (Nat.le_refl _) ((Below.refl _ _).drew)⟩
theorem bv.off {w w':World} {v:Nat} {s:ar} {T:List aP} (h:bv w v s T) {B:Nat} (hb:Below B w w') (hv:v<B) {B' sz n:Nat} {e:TypeId} {u:Value} {xs:List Value} (ho:w.ownsRow B' e sz u n xs) (he:bN≠e) (hk:∀k,u.ownBlock≠some k→w'.heap[k]? =w.heap[k]?):bv w' v s T:=by
 obtain⟨w0,x,tp,bp,mp,d,l,uses,hR⟩:=h;have hlt:=hR.lt;refine⟨w0,x,tp,bp,mp,d,l,uses,hR.parts,hR.below.trans (hb.mono (by omega)),hlt,by rw [hb.block v hv];exact hR.blk,?_⟩;rcases hR.once with h |⟨h1,h2,h3⟩
 ·exact .inl h
 ·exact .inr ⟨h1,h2,aO h3 fun k hk3=>hk k (bW h3 ho he k hk3)⟩
theorem bv.own_touch {w w':World} {v:Nat} {s:ar} {T:List aP} (h:bv w v s T) (t:au v w w') {B sz n:Nat} {e:TypeId} {u:Value} {xs:List Value} (ho:w.ownsRow B e sz u n xs) (he:e≠dw):w'.ownsRow B e sz u n xs:=by
 obtain⟨w0,x,tp,bp,mp,d,l,uses,hR⟩:=h;exact t.own ho (az ho hR.blk he)
theorem au.then_off {v B:Nat} {a b c:World} (t:au v a b) (hb:Below B b c) (hB:a.heap.size≤B):au v a c:=
 ⟨hb.os.trans t.os,hb.tape.trans t.tape,hb.output.trans t.output,Nat.le_trans t.size hb.size,fun k hk hv=>(hb.block k (Nat.lt_of_lt_of_le hk hB)).trans (t.block k hk hv)⟩
theorem sL (w:World) (n:Nat) (is:Value) (p:Nat→Bool) (v:Nat) (s:ar) (T:List aP) (hV:bv w v s T) (hn:n≤100000)
  (his:∀i,i<n→∀w1,bv w1 v s T→au v w w1→bF fY is [.int .i64 (i:Int)] w1 (fun e w2=>e= .returned (.bool (p i))∧bv w2 v s T∧au v w1 w2)):
  CP 71 #[.int .i64 (n:Int),is] w fun e w'=>∃l:Sl,e= .returned l.v∧w'.ownsRow w.heap.size gC 1 l.v l.n ((br n p).flatMap cY)∧bv w' v s T∧au v w w':=by
 refine aN (AC n is w) ?_;have hvl:=hV.lt;refine Ar.nat (n+64) (by omega) (by omega) (Ar.nat (n+63) (by omega) (by omega) ⟨by decide,?_⟩);rw [Cv (n+63) (by omega)];obtain⟨m,hm⟩:∃m,m=(n+63)/64:=⟨_,rfl⟩;rw [←hm];refine⟨_,_,_,_,sg w m (by omega),?_⟩;have ho:(w.alloc (.cells (Array.replicate m (.int .u64 0)) gC)).ownsRow w.heap.size gC 1 (.slice (some (nb w)) m m) m ((br n (fun j=>p j&&decide (j<0))).flatMap cY):=by
  have:=fW (w:=w) (e:=gC) (n:=m) (List.replicate m (Value.int .u64 0)) (by simp) (by omega) (Nat.le_refl w.heap.size);rw [uw, ←hm];have e:(List.replicate m (0:Int)).flatMap cY=List.replicate m (Value.int .u64 0):=by
   clear this hm;induction m with
   |zero=>rfl
   |succ m ih=>rw [List.replicate_succ,List.flatMap_cons,ih,List.replicate_succ];rfl
  rw [e];simpa using this
 have b1:=af w (.cells (Array.replicate m (.int .u64 0)) gC);intro I hI;have key:=a_ (α:=World) n (fun i q=>q.ownsRow w.heap.size gC 1 (.slice (some (nb w)) m m) m ((br n (fun j=>p j&&decide (j<i))).flatMap cY)∧bv q v s T∧au v w q) (fun i q=>I [.int .i64 (i:Int)] q) _ ⟨ho,hV.on b1,au.of_below b1⟩ ?_ ?_
 ·exact key
 ·rintro i hi ih q ⟨hown,hVq,tq⟩;refine hI _ _ (ac.yes (by simp;omega) ?_);intro J hJ;have hJ':∀q',(q'.ownsRow w.heap.size gC 1 (.slice (some (nb w)) m m) m ((br n (fun j=>p j&&decide (j<i+1))).flatMap cY)∧bv q' v s T∧au v w q')→J [] q':=fun q' h=>hJ _ (Ar.nat (i+1) rfl (by omega) (ih q' h));refine(his i hi q hVq tq).mono ?_;rintro e w4 ⟨rfl,hV4,t4⟩;have ho4:=hVq.own_touch t4 hown (by decide);have tw4:=tq.trans t4;refine⟨_,rfl,ac.mk (fun hp=>?_) fun hp=>hJ' w4 ⟨by rw [tH n p hp];exact ho4,hV4,tw4⟩⟩;have hk:i/64< (br n (fun j=>p j&&decide (j<i))).length:=by rw [cL];omega
  refine(xB w4 w.heap.size ⟨some (nb w),m,m⟩ _ ho4 i (wordAt n (fun j=>p j&&decide (j<i)) (i/64)) (by omega) hk (by simp [br]) (nU _ _ _)).mono ?_;rintro e w5 ⟨rfl,ho5,hs5,hz5,b5⟩;refine⟨rfl,hJ' w5 ⟨?_,hV4.off b5 hvl ho4 (by decide) hs5,tw4.then_off b5 (Nat.le_refl _)⟩⟩;rw [tY n p hi hp];exact ho5
 ·rintro q ⟨hown,hVq,tq⟩;rw [zc]at hown;exact hI _ _ (ac.no (by simp) ⟨⟨some (nb w),m,m⟩,rfl,hown,hVq,tq⟩)
def bx (s:ar) (T:List aP):List Int:=(List.range T.length).map (fun i:Nat=>(i:Int))++s.specials.map (·.1)
theorem dP (s:ar) (T:List aP):(bx s T).length=T.length+s.specials.length:=by simp [bx]
theorem Dw {l:List Int} (h:l.Pairwise (·< ·)):lM l:=fun i j hi hj hij=>List.pairwise_iff_getElem.1 h i j hi hj hij
theorem jL {s:ar} {T:List aP} (hasc:(s.specials.map (·.1)).Pairwise (·< ·)) (hids:∀y∈s.specials,(T.length:Int)≤y.1):(bx s T).Pairwise (·< ·):=by
 rw [bx,List.pairwise_append];refine⟨?_,hasc,?_⟩
 ·rw [List.pairwise_map];exact List.pairwise_lt_range.imp (by intro a b h;omega)
 ·intro a ha b hb;obtain⟨i,hi,rfl⟩:=List.mem_map.1 ha;obtain⟨y,hy,rfl⟩:=List.mem_map.1 hb;have:=hids y hy;have:=List.mem_range.1 hi;omega
theorem mw (s:ar) (T:List aP) (t:Int):t∈bx s T↔gp s T t=true:=by
 unfold bx gp;rw [List.mem_append,decide_eq_true_eq,Or.comm];refine or_congr Iff.rfl ?_;rw [List.mem_map];constructor
 ·rintro⟨i,hi,rfl⟩;have:=List.mem_range.1 hi;exact⟨by omega,by omega⟩
 ·rintro⟨h1,h2⟩;exact⟨t.toNat,List.mem_range.2 (by omega),by omega⟩
theorem uk (w:World) (p:Nat) (xs:List (Int×Bs)) (h:tQ w p xs) (hl:xs.length≤1000000):CP 121 #[.pointer (some ⟨p,0,none⟩)] w fun e w'=>∃l:Sl,e= .returned l.v∧l.n=xs.length∧w'.ownsRow w.heap.size pz 2 l.v l.n (xs.flatMap aI)∧Below w.heap.size w w':=by
 refine aN (vf (some ⟨p,0,none⟩) w) ?_;obtain⟨l,mi,mt,c,h1,h2,h3,h4,_,_⟩:=h;obtain⟨la,ln,lc⟩:=l;change ln=xs.length at h3;subst h3;refine ac.no rfl (ag.mk _ rfl ⟨la,_,lc,by rw [aj _ _ h1];exact h2.c0,?_⟩);refine(oT w la lc xs h4 (by omega)).mono ?_;rintro e w1 ⟨l,rfl,hn,ho,hb⟩;exact⟨_,_,_,rfl,l,rfl,hn,ho,hb⟩
theorem xV (w:World) (v:Nat) (s:ar) (T:List aP) (hV:bv w v s T) (hasc:(s.specials.map (·.1)).Pairwise (·< ·)):
  CP 61 #[.pointer (some ⟨v,0,none⟩)] w fun e w'=>∃l:Sl,e= .returned l.v∧w'.ownsRow w.heap.size bf 1 l.v l.n ((bx s T).flatMap aQ)∧Below w.heap.size w w':=by
 refine aN (A5 (some ⟨v,0,none⟩) w) ?_;obtain⟨w0,x,tp,bp,mp,d,l,uses,hR⟩:=hV;have hP:=hR.now;have hmost:=hP.ok.most;have hlen:=hP.ok.len;have hfew:=(ii hP.right).2.2.1;have hmx:s.specials.length≤32:=by
  have:=(im hP.right).2.2.2.1;exact fK this
 refine(mZ hR.vblk hP.tab).mono ?_;rintro e w1 ⟨rfl,hw⟩;subst hw;refine⟨_,rfl,?_⟩;intro I hI;have key:=a_ (α:=Sl×World) T.length (fun i y=>y.2.ownsRow w1.heap.size bf 1 y.1.v y.1.n (((List.range i).map (fun i:Nat=>(i:Int))).flatMap aQ)∧y.1.n=i∧Below w1.heap.size w1 y.2) (fun i y=>I [.int .i64 (i:Int),y.1.v] y.2) (bZ,w1) ⟨cP _ _ _ _ aQ,rfl,Below.refl _ _⟩ ?_ ?_
 ·exact key
 ·rintro i hi ih ⟨f,q⟩ ⟨hown,hn,hB⟩;change q.ownsRow w1.heap.size bf 1 f.v f.n _ at hown;change f.n=i at hn;change Below w1.heap.size w1 q at hB;refine hI _ f.a f.n f.c q (ac.yes (by simp;omega) ?_);intro w3 hw3;obtain⟨f',w4,g1,g2,g3,g4,_⟩:=fA.push hown (i:Int) hw3 rfl hB.size (by omega) (by decide);refine⟨f'.a,f'.n,f'.c,w4,g2,Ar.nat (i+1) rfl (by omega) (ih (f',w4) ⟨?_,by show f'.n=i+1;omega,g4 _ hB⟩)⟩;rw [List.range_succ,List.map_append];exact g3
 ·rintro⟨f,q⟩ ⟨hown,hn,hB⟩;change q.ownsRow w1.heap.size bf 1 f.v f.n _ at hown;change f.n=T.length at hn;change Below w1.heap.size w1 q at hB;refine hI _ f.a f.n f.c q (ac.no (by simp) ?_);refine(kU (hR.vblk.on hB)).mono ?_;rintro e w5 ⟨rfl,hw⟩;subst hw;refine⟨_,rfl,?_⟩;refine(uk w5 mp s.specials (hP.on hB).marks hfew).mono ?_;rintro e w6 ⟨a,rfl,han,hao,b6⟩;refine⟨a.a,a.n,a.c,rfl,?_⟩;have hB6:=ae hB b6;intro I2 hI2;have key2:=a_ (α:=Sl×World) s.specials.length (fun i y=>y.2.ownsRow w1.heap.size bf 1 y.1.v y.1.n (((List.range T.length).map (fun i:Nat=>(i:Int))++(s.specials.take i).map (·.1)).flatMap aQ)∧y.1.n=T.length+i∧y.2.ownsRow w1.heap.size pz 2 a.v a.n (s.specials.flatMap aI)∧Below w1.heap.size w1 y.2) (fun i y=>I2 [.int .i64 (i:Int),y.1.v] y.2) (f,w6) ⟨by simpa using aE hown b6,by show f.n=T.length+0;omega,bI hao hB.size,hB6⟩ ?_ ?_
  ·exact key2
  ·rintro i hi ih ⟨g,z⟩ ⟨hg,hgn,hza,hBz⟩;change z.ownsRow w1.heap.size bf 1 g.v g.n _ at hg;change g.n=T.length+i at hgn;change z.ownsRow w1.heap.size pz 2 a.v a.n _ at hza;change Below w1.heap.size w1 z at hBz;obtain⟨p,hp,_,hc⟩:=(LsAt.of_own ee hza).r i _ (List.getElem?_eq_getElem hi);have c0:=hc 0 _ rfl;rw [ax]at c0;refine hI2 _ g.a g.n g.c z (ac.yes (by simp;omega) (ag.mk p hp ⟨by omega,by omega,_,_,⟨c0,hc 1 _ rfl,trivial⟩,?_⟩));intro w8 hw8;refine aT [.int .i64 0,.string ⟨#[]⟩] [.int .i64 s.specials[i].1,.string (str s.specials[i].2)] rfl (fc _ _) w8 hw8 ?_;intro w9 h9 hz9 b9;refine⟨_,aj _ _ h9 0,?_⟩;intro w10 hw10;have hB9:=ae hBz b9;obtain⟨g',w11,e1,e2,e3,e4,e5⟩:=fA.push (aE hg b9) s.specials[i].1 hw10 rfl hB9.size (by omega) (by decide);have hza9:=aE hza b9;refine⟨g'.a,g'.n,g'.c,w11,e2,Ar.nat (i+1) rfl (by omega) (ih (g',w11) ⟨?_,by show g'.n=T.length+(i+1);omega,aO hza9 fun k hk=>e5 k (b_ hza9 k hk).2 (bW hza9 (aE hg b9) (by decide) k hk),e4 _ hB9⟩)⟩;rw [List.take_add_one,List.getElem?_eq_getElem hi,List.map_append, ←List.append_assoc];exact e3
  ·rintro⟨g,z⟩ ⟨hg,hgn,hza,hBz⟩;change z.ownsRow w1.heap.size bf 1 g.v g.n _ at hg;change g.n=T.length+s.specials.length at hgn;change Below w1.heap.size w1 z at hBz;rw [List.take_length]at hg;have hgl:g.n=(bx s T).length:=by rw [dP,hgn]
   have hgg:z.ownsRow w1.heap.size bf 1 g.v g.n ((bx s T).flatMap aQ):=hg;refine hI2 _ g.a g.n g.c z (ac.no (by simp;omega) ?_);have hrow:=(LsAt.of_own fA hgg).r;have hrise:=Dw (jL hasc hP.ids);have hsort:CP 122 #[.slice g.a g.n g.c] z fun e w'=>e= .returned (.tuple #[])∧Below z.heap.size z w':=by
    rw [hgl];exact Dd z g.a g.c _ hrow hrise (by rw [dP];omega) (by rw [dP];omega)
   refine hsort.mono ?_;rintro e w12 ⟨rfl,b12⟩;exact⟨rfl,g,rfl,aE hgg b12,ae hBz b12⟩
theorem BT (w:World) (v:Nat) (s:ar) (T:List aP) (hV:bv w v s T) (a b:Int) (ha:(aL s T).Has a) (hb:(aL s T).Has b):
  CP 76 #[.pointer (some ⟨v,0,none⟩),.int .i64 a,.int .i64 b] w fun e w'=>e= .returned (.bool (decide ((aL s T).Canon [a,b])))∧bv w' v s T∧au v w w':=by
 refine aR (As (some ⟨v,0,none⟩) a b w (fun u w'=>u= .bool (decide ((aL s T).Canon [a,b]))∧bv w' v s T∧au v w w') ?_) (by rintro v w' ⟨rfl,h⟩;exact⟨rfl,h⟩);have parts:∀ {q:World},bv q v s T→∃x tp bp mp,cw q s T x tp bp mp∧∃c,mA q v c tp bp mp:=by
  rintro q ⟨w0,x,tp,bp,mp,d,l,uses,hR⟩;exact⟨x,tp,bp,mp,hR.now,_,hR.vblk⟩
 obtain⟨x,tp,bp,mp,hP,_⟩:=parts hV;have hok:=nW hP;have hab:∀t∈ [a]++ [b],(aL s T).Has t:=by
  intro t ht;simp at ht;rcases ht with rfl |rfl
  ·exact ha
  ·exact hb
 refine(lJ w v s T hV a).mono ?_;rintro e w1 ⟨rfl,hV1,t1⟩;refine⟨_,rfl,ac.mk (fun h1=>?_) fun h1=>⟨?_,hV1,t1⟩⟩
 ·have ca:=(gS hP ha).1 h1;refine(lJ w1 v s T hV1 b).mono ?_;rintro e w2 ⟨rfl,hV2,t2⟩;have t12:=t1.trans t2;refine⟨_,rfl,ac.mk (fun h2=>?_) fun h2=>⟨?_,hV2,t12⟩⟩
  ·have cb:=(gS hP hb).1 h2;obtain⟨x2,tp2,bp2,mp2,hP2,c2,hB2⟩:=parts hV2;refine(vm hB2 hP2 a b ha hb ca cb).mono ?_;rintro e w3 ⟨r,rfl,hr,b3⟩;refine⟨r,rfl,?_,hV2.on b3,t12.trans (au.of_below b3)⟩;have hm:=Voc.canon_more hok (init:=[]) (l:=a) (t:=b) (fun x hx=>by simp at hx;rw [hx];exact ha) ca hb;congr 1;have hm2:(aL s T).Canon [a,b]↔(aL s T).Canon [b]∧(aL s T).Pair a b:=hm;cases r with
   |true=>exact(decide_eq_true (hm2.2 ⟨cb,hr.1 rfl⟩)).symm
   |false=>exact(decide_eq_false fun e=>by have:=hr.2 (hm2.1 e).2;cases this).symm
  ·rw [decide_eq_false fun e=>?_];have:=(gS hP hb).2 (Voc.canon_append hok (P:=[a]) (Q:=[b]) hab e).2;rw [h2]at this;cases this
 ·rw [decide_eq_false fun e=>?_];have:=(gS hP ha).2 (Voc.canon_append hok (P:=[a]) (Q:=[b]) hab e).1;rw [h1]at this;cases this
abbrev ro:TypeId:=132
abbrev Im:TypeId:=129
theorem Hm:Tryz.prog.underlying Im=some (.slice m'):=by kernel_rfl
theorem Hv:(Tryz.prog.info? m').map (fun i=>(i.zero,i.size,i.bytes))=some (some (.slice none 0 0),1,24):=by kernel_rfl
def qg (r:Sl):List Value:=[r.v]
theorem FW:zH qg 1 Im m' 24:=⟨fun _=>rfl,by decide,fun x u hu=>by rw [List.mem_singleton.1 hu];rfl,Hm,_,Hv,rfl⟩
def sq (G:List Int):List (Int×Value):=G.zipIdx.map fun x=>(x.1,.int .i64 (x.2:Int))
theorem DP (G:List Int) (x:Int):sq (G++ [x])=sq G++ [(x,.int .i64 (G.length:Int))]:=by simp [sq,List.zipIdx_append]
theorem td (G:List Int) (k:Int):dV k (sq G)=(G.idxOf? k).map fun i:Nat=>Value.int .i64 (i:Int):=by
 have:=gK (fun x:Int=>x) k G 0;simp only [Nat.zero_add,List.map_id']at this;exact this
def lr (s:ar) (T:List aP) (i:Nat):Bool:=decide ((aL s T).Canon [(bx s T).getD i 0])
def dZ (s:ar) (T:List aP) (i k:Nat):Bool:=decide ((aL s T).Canon [(bx s T).getD i 0,(bx s T).getD k 0])
structure jI (w:World) (g:Nat) (G:List Int) (al:Nat→Bool) (rel:Nat→Nat→Bool) (ids rows alone:Sl) (mb:Nat) (rs:List Sl) (m:Nat):Prop where
 blk:w.heap[g]? =some (.cells #[ids.v,.map (some mb),rows.v,alone.v] ro (0,0))
 oi:w.ownsRow 0 bf 1 ids.v ids.n (G.flatMap aQ)
 map:bu ba w mb (sq G)
 orows:w.ownsRow 0 m' 1 rows.v rows.n (rs.flatMap qg)
 rl:rs.length=m
 each:∀(i:Nat) (r:Sl),rs[i]? =some r→w.ownsRow 0 gC 1 r.v r.n ((br G.length (rel i)).flatMap cY)
 oal:w.ownsRow 0 gC 1 alone.v alone.n ((br G.length al).flatMap cY)
def pR (w:World) (g:Nat) (G:List Int) (al:Nat→Bool) (rel:Nat→Nat→Bool):Prop:=∃ids rows alone mb rs,jI w g G al rel ids rows alone mb rs G.length
theorem jI.on {w w':World} {g:Nat} {G:List Int} {al:Nat→Bool} {rel:Nat→Nat→Bool} {ids rows alone:Sl} {mb:Nat} {rs:List Sl} {m:Nat} (h:jI w g G al rel ids rows alone mb rs m) (hb:Below w.heap.size w w'):jI w' g G al rel ids rows alone mb rs m:=
 ⟨ah hb h.blk,aE h.oi hb,h.map.on hb,aE h.orows hb,h.rl,fun i r hr=>aE (h.each i r hr) hb,aE h.oal hb⟩
theorem pR.on {w w':World} {g:Nat} {G:List Int} {al:Nat→Bool} {rel:Nat→Nat→Bool} (h:pR w g G al rel) (hb:Below w.heap.size w w'):pR w' g G al rel:=by
 obtain⟨ids,rows,alone,mb,rs,h⟩:=h;exact⟨ids,rows,alone,mb,rs,h.on hb⟩
theorem bv.typed {w:World} {v:Nat} {s:ar} {T:List aP} (h:bv w v s T):∃c,w.heap[v]? =some (.cells c dw (0,0)):=by
 obtain⟨w0,x,tp,bp,mp,d,l,uses,hR⟩:=h;exact⟨_,hR.blk⟩
theorem bv.ne_cells {w:World} {v:Nat} {s:ar} {T:List aP} (h:bv w v s T) {k:Nat} {c:Array Value} {e:TypeId} {fz:Nat×Nat} (hk:w.heap[k]? =some (.cells c e fz)) (he:e≠dw):k≠v:=by
 obtain⟨c',hc⟩:=h.typed;rintro rfl;rw [hc]at hk;cases hk;exact he rfl
theorem bv.ne_map {w:World} {v:Nat} {s:ar} {T:List aP} (h:bv w v s T) {κ:Type} [DecidableEq κ] {kv:κ→Value} {r:Nat} {m:List (κ×Value)} (hm:bu kv w r m):r≠v:=by
 obtain⟨c',hc⟩:=h.typed;rintro rfl;obtain⟨es,k,hk,_⟩:=hm;rw [hc]at hk;cases hk
theorem jI.touch {w w':World} {g:Nat} {G:List Int} {al:Nat→Bool} {rel:Nat→Nat→Bool} {ids rows alone:Sl} {mb:Nat} {rs:List Sl} {m:Nat} (h:jI w g G al rel ids rows alone mb rs m) {v:Nat} {s:ar} {T:List aP} (hV:bv w v s T) (t:au v w w'):jI w' g G al rel ids rows alone mb rs m:=
 ⟨t.held (hV.ne_cells h.blk (by decide)) h.blk,hV.own_touch t h.oi (by decide),h.map.same (t.block mb h.map.lt (hV.ne_map h.map)),hV.own_touch t h.orows (by decide),h.rl,fun i r hr=>hV.own_touch t (h.each i r hr) (by decide),hV.own_touch t h.oal (by decide)⟩
theorem gG {w2 w3:World} {x u:Value} {e:TypeId} (hw:w3=w2.alloc (.cells #[x] e)) (hu:u.oneCell'=true) {k:World→Prop} (hk:∀w4,w4.heap[w2.heap.size]? =some (.cells #[u] e (0,0))→Below w2.heap.size w2 w4→k w4):u.oneCell'=true∧(∃y,w3.cell? (nb w2)=some y)∧w3.frozen? (nb w2)=false∧∀w4,w4=w3.setCell (nb w2) u→k w4:=
 eX (aT [x] [u] rfl (by intro y hy;rw [List.mem_singleton.1 hy];exact hu) w3 hw fun w4 h4 _ b4=>hk w4 h4 b4)
theorem bA {w:World} {b:Nat} {x:Value} {e:TypeId} {fz:Nat×Nat} (h:w.heap[b]? =some (.cells #[x] e fz)):w.cell? ⟨b,0,none⟩=some x:=aK h
theorem fO {α:Type} {l:List α} {i:Nat} (h:i<l.length) (d:α):l.getD i d=l[i]:=by simp [List.getD,h]
theorem qP {s:ar} {T:List aP} (h1:gf T) (h2:s.right=true):256≤(bx s T).length∧(bx s T).length≤1032:=by
 have:=h1.most;have:=h1.len;have:=fK (im h2).2.2.2.1;rw [dP];omega
theorem au.put {v d j:Nat} {a b:World} (t:au v a b) (hd:a.heap.size≤d) (u:Value):au v a (b.setCell ((⟨d,0,none⟩:Addr).add j) u):=
 ⟨t.os,t.tape,t.output,by rw [aS];exact t.size,fun k hk hv=>by rw [aq (by rw [ay];show k≠d;omega)];exact t.block k hk hv⟩
theorem bv.put {w:World} {v d j:Nat} {s:ar} {T:List aP} (h:bv w v s T) {c:Array Value} {e:TypeId} (hd:w.heap[d]? =some (.cells c e (0,0))) (he:bN≠e) (hv:v<d) (u:Value):bv (w.setCell ((⟨d,0,none⟩:Addr).add j) u) v s T:=by
 obtain⟨w0,x,tp,bp,mp,q,l,uses,hR⟩:=h;have hlt:=hR.lt;refine⟨w0,x,tp,bp,mp,q,l,uses,hR.parts,bJ hR.below (by omega) u,hlt,by rw [aq (by rw [ay];show v≠d;omega)];exact hR.blk,?_⟩;rcases hR.once with h |⟨h1,h2,h3⟩
 ·exact .inl h
 ·exact .inr ⟨h1,h2,bB h3 u (by rw [ay];exact az h3 hd he)⟩
theorem bv.growE {w w':World} {v:Nat} {s:ar} {T:List aP} (h:bv w v s T) {B:Nat} (hb:Below B w w') (hv:v<B) {B' n sz:Nat} {e:TypeId} {u:Value} {xs:List Value} (ho:w.ownsRow B' e sz u n xs) (he:bN≠e) (hk:∀k,k<w.heap.size→u.ownBlock≠some k→w'.heap[k]? =w.heap[k]?):bv w' v s T:=by
 obtain⟨w0,x,tp,bp,mp,d,l,uses,hR⟩:=h;have hlt:=hR.lt;refine⟨w0,x,tp,bp,mp,d,l,uses,hR.parts,hR.below.trans (hb.mono (by omega)),hlt,by rw [hb.block v hv];exact hR.blk,?_⟩;rcases hR.once with h |⟨h1,h2,h3⟩
 ·exact .inl h
 ·exact .inr ⟨h1,h2,aO h3 fun k hk3=>hk k (b_ h3 k hk3).2 (bW h3 ho he k hk3)⟩
theorem CJ (w:World) (v:Nat) (s:ar) (T:List aP) (hV:bv w v s T) (t:Int) (ht:(aL s T).Has t):
  CP 73 #[.pointer (some ⟨v,0,none⟩),.int .i64 t] w fun e w'=>e= .returned (.bool (decide ((aL s T).Canon [t])))∧bv w' v s T∧au v w w':=by
 have hP:∃x tp bp mp,cw w s T x tp bp mp:=by
  obtain⟨w0,x,tp,bp,mp,d,l,uses,hR⟩:=hV;exact⟨x,tp,bp,mp,hR.now⟩
 obtain⟨x,tp,bp,mp,hP⟩:=hP;refine(lJ w v s T hV t).mono ?_;rintro e w1 ⟨rfl,h⟩;refine⟨?_,h⟩;congr 2;have:=gS hP ht;cases ha:fZ s T t with
 |true=>exact(decide_eq_true (this.1 ha)).symm
 |false=>exact(decide_eq_false fun e=>by rw [this.2 e]at ha;cases ha).symm
theorem C0 (w:World) (v:Nat) (s:ar) (T:List aP) (hV:bv w v s T) (b0 b1:Nat) {e0 e1:TypeId} (ids:Sl) (G:List Int) (h0:w.heap[b0]? =some (.cells #[.pointer (some ⟨v,0,none⟩)] e0 (0,0))) (h1:w.heap[b1]? =some (.cells #[ids.v] e1 (0,0))) (oi:w.ownsRow 0 bf 1 ids.v ids.n (G.flatMap aQ)) (hG:∀t∈G,(aL s T).Has t) (i:Nat) (hi:i<G.length):
  CP 72 #[.int .i64 (i:Int),.pointer (some ⟨b0,0,none⟩),.pointer (some ⟨b1,0,none⟩)] w fun e w'=>e= .returned (.bool (decide ((aL s T).Canon [G.getD i 0])))∧bv w' v s T∧au v w w':=by
 refine aN (Av i (some ⟨b0,0,none⟩) (some ⟨b1,0,none⟩) w) ?_;intro w1 hw1;have b1':Below w.heap.size w w1:=by subst hw1;exact aM w
 have hls:=LsAt.of_own fA (aE oi b1');have hn:=hls.n;obtain⟨p,hp,c0⟩:=bj hls.r hi rfl;refine ag.mk _ rfl ⟨_,bA (ah b1' h0),ag.mk _ rfl ⟨ids.a,ids.n,ids.c,bA (ah b1' h1),ag.mk p hp ⟨by omega,by omega,_,c0,?_⟩⟩⟩;refine(CJ w1 v s T (hV.on b1') G[i] (hG _ (List.getElem_mem hi))).mono ?_;rintro e w2 ⟨rfl,hV2,t2⟩;refine⟨_,rfl,?_,hV2,(au.of_below b1').trans t2⟩;rw [fO hi]
theorem DG (w:World) (v:Nat) (s:ar) (T:List aP) (hV:bv w v s T) (cg ci cv ca cids:Nat) {eg ei ev ea ed:TypeId} (g:Nat) (ids rows alone:Sl) (mb:Nat) (rs:List Sl) (m i k:Nat) (hb:v<cg∧v<ci∧v<cv∧v<ca∧v<cids)
  (hR:jI w g (bx s T) (lr s T) (dZ s T) ids rows alone mb rs m) (hgh:∀t∈bx s T,(aL s T).Has t) (hgl:(bx s T).length≤1032)
  (h0:w.heap[cg]? =some (.cells #[.pointer (some ⟨g,0,none⟩)] eg (0,0))) (h1:w.heap[ci]? =some (.cells #[.int .i64 (i:Int)] ei (0,0))) (h2:w.heap[cv]? =some (.cells #[.pointer (some ⟨v,0,none⟩)] ev (0,0))) (h3:w.heap[ca]? =some (.cells #[.int .i64 ((bx s T).getD i 0)] ea (0,0))) (h4:w.heap[cids]? =some (.cells #[ids.v] ed (0,0)))
  (hi:i< (bx s T).length) (hk:k< (bx s T).length):
  CP 74 #[.int .i64 (k:Int),.pointer (some ⟨cg,0,none⟩),.pointer (some ⟨ci,0,none⟩),.pointer (some ⟨cv,0,none⟩),.pointer (some ⟨ca,0,none⟩),.pointer (some ⟨cids,0,none⟩)] w fun e w'=>e= .returned (.bool (dZ s T i k))∧bv w' v s T∧au v w w':=by
 refine aN (BF k (some ⟨cg,0,none⟩) (some ⟨ci,0,none⟩) (some ⟨cv,0,none⟩) (some ⟨ca,0,none⟩) (some ⟨cids,0,none⟩) w) ?_;have hP:∃x tp bp mp,cw w s T x tp bp mp:=by
  obtain⟨w0,x,tp,bp,mp,d,l,uses,hR⟩:=hV;exact⟨x,tp,bp,mp,hR.now⟩
 obtain⟨x,tp,bp,mp,hP⟩:=hP;have hok:=nW hP;have hA:(aL s T).Has ((bx s T).getD i 0):=by rw [fO hi];exact hgh _ (List.getElem_mem hi)
 have hB:(aL s T).Has ((bx s T).getD k 0):=by rw [fO hk];exact hgh _ (List.getElem_mem hk)
 have hpair:dZ s T i k=true→lr s T i=true∧lr s T k=true:=by
  intro h;have:=Voc.canon_append hok (P:=[(bx s T).getD i 0]) (Q:=[(bx s T).getD k 0]) (by
   intro t ht;simp only [List.cons_append,List.nil_append,List.mem_cons,List.not_mem_nil,or_false]at ht;rcases ht with rfl |rfl
   ·exact hA
   ·exact hB) (of_decide_eq_true h)
  exact⟨decide_eq_true this.1,decide_eq_true this.2⟩
 intro w1 hw1;have b1':Below w.heap.size w w1:=by subst hw1;exact aM w
 have t1:au v w w1:=au.of_below b1';have hR1:=hR.on b1';have hV1:=hV.on b1';have al1:=LsAt.of_own qq hR1.oal;refine ag.mk _ rfl ⟨_,bA (ah b1' h0),ag.mk _ rfl ⟨alone.a,alone.n,alone.c,by rw [aW hR1.blk];rfl,ag.mk _ rfl ⟨_,bA (ah b1' h1),?_⟩⟩⟩;refine(jZ w1 alone.a alone.n alone.c _ (lr s T) al1.r al1.n (by omega) i hi).mono ?_;rintro e w2 ⟨rfl,hw2⟩;rw [hw2];refine⟨_,rfl,ac.mk (fun ha=>?_) fun ha=>⟨?_,hV1,t1⟩⟩
 ·refine ag.mk _ rfl ⟨_,bA (ah b1' h0),ag.mk _ rfl ⟨alone.a,alone.n,alone.c,by rw [aW hR1.blk];rfl,?_⟩⟩;refine(jZ w1 alone.a alone.n alone.c _ (lr s T) al1.r al1.n (by omega) k hk).mono ?_;rintro e w3 ⟨rfl,hw3⟩;rw [hw3];refine⟨_,rfl,ac.mk (fun hb=>?_) fun hb=>⟨?_,hV1,t1⟩⟩
  ·have hls:=LsAt.of_own fA hR1.oi;have hn:=hls.n;obtain⟨p,hp,c0⟩:=bj hls.r hk rfl;refine ag.mk _ rfl ⟨_,bA (ah b1' h2),ag.mk _ rfl ⟨_,bA (ah b1' h3),ag.mk _ rfl ⟨ids.a,ids.n,ids.c,bA (ah b1' h4),ag.mk p hp ⟨by omega,by omega,_,c0,?_⟩⟩⟩⟩;rw [←fO hk 0];refine(BT w1 v s T hV1 _ _ hA hB).mono ?_;rintro e w4 ⟨rfl,hV4,t4⟩;exact⟨_,rfl,rfl,hV4,t1.trans t4⟩
  ·cases hr:dZ s T i k with
   |false=>rfl
   |true=>rw [(hpair hr).2]at hb;cases hb
 ·cases hr:dZ s T i k with
  |false=>rfl
  |true=>rw [(hpair hr).1]at ha;cases ha
theorem dU {w:World} {B:Nat} {e:TypeId} {sz n:Nat} {u:Value} {xs:List Value} (h:w.ownsRow B e sz u n xs) {κ:Type} [DecidableEq κ] {kv:κ→Value} {r:Nat} {m:List (κ×Value)} (hm:bu kv w r m):u.ownBlock≠some r:=by
 obtain⟨es,k,hk,_⟩:=hm;intro hb;rcases h.2 with⟨rfl,_⟩ |⟨g,cap,cur,rfl,_,hg,_⟩
 ·cases hb
 ·cases hb;rw [hk]at hg;cases hg
theorem CY {q w1 w2:World} {x y u z:Value} {e e':TypeId} (h1:w1=q.alloc (.cells #[x] e)) (h2:w2=w1.alloc (.cells #[y] e')) (hu:u.oneCell'=true) (hz:z.oneCell'=true) {k:World→Prop} (hk:∀w4,w4.heap[q.heap.size]? =some (.cells #[u] e (0,0))→w4.heap[w1.heap.size]? =some (.cells #[z] e' (0,0))→Below q.heap.size q w4→k w4):
  u.oneCell'=true∧(∃a,w2.cell? (nb q)=some a)∧w2.frozen? (nb q)=false∧∀w3,w3=w2.setCell (nb q) u→z.oneCell'=true∧(∃a,w3.cell? (nb w1)=some a)∧w3.frozen? (nb w1)=false∧∀w4,w4=w3.setCell (nb w1) z→k w4:=by
 have b1:Below q.heap.size q w1:=by subst h1;exact af _ _
 have a1:w1.heap[q.heap.size]? =some (.cells #[x] e (0,0)):=by subst h1;exact ak _ _
 have b2:Below w1.heap.size w1 w2:=by subst h2;exact af _ _
 have a2:w2.heap[w1.heap.size]? =some (.cells #[y] e' (0,0)):=by subst h2;exact ak _ _
 have a12:=ah b2 a1;have hlt:q.heap.size<w1.heap.size:=(Array.getElem?_eq_some_iff.1 a1).1;have b02:=ae b1 b2;refine⟨hu,⟨_,aK a12⟩,bn a12,?_⟩;intro w3 h3;have a13:w3.heap[q.heap.size]? =some (.cells #[u] e (0,0)):=by subst h3;exact bC a12 u
 have a23:w3.heap[w1.heap.size]? =some (.cells #[y] e' (0,0)):=by subst h3;rw [aq (by show w1.heap.size≠q.heap.size;omega)];exact a2
 have b03:Below q.heap.size q w3:=by subst h3;exact b02.setCell (p:=nb q) (Nat.le_refl _) u
 refine⟨hz,⟨_,aK a23⟩,bn a23,?_⟩;intro w4 h4;refine hk w4 ?_ ?_ ?_
 ·subst h4;rw [aq (by show q.heap.size≠w1.heap.size;omega)];exact a13
 ·subst h4;exact bC a23 z
 ·subst h4;exact b03.setCell (p:=nb w1) (Nat.le_of_lt hlt) z
def Ip (w:World) (v:Nat) (s:ar) (T:List aP) (most:Int) (u:Value) (w':World):Prop:=bv w' v s T∧au v w w'∧(if(((bx s T).length*(bx s T).length:Nat):Int)>most then u= .tuple #[.pointer none,.int .i64 5]else ∃g,u= .tuple #[.pointer (some ⟨g,0,none⟩),.int .i64 0]∧pR w' g (bx s T) (lr s T) (dZ s T)∧w.heap.size≤g)
set_option maxHeartbeats 2000000 in
theorem mK (w:World) (v:Nat) (s:ar) (T:List aP) (hV:bv w v s T) (hasc:(s.specials.map (·.1)).Pairwise (·< ·)) (most:Int):
  CP 32 #[.pointer (some ⟨v,0,none⟩),.int .i64 most] w fun e w'=>∃u,e= .returned u∧Ip w v s T most u w':=by
 refine At (some ⟨v,0,none⟩) most w (Ip w v s T most) ?_;have hgb:256≤(bx s T).length∧(bx s T).length≤1032∧(∀t∈bx s T,(aL s T).Has t)∧(bx s T).Pairwise (·< ·):=by
  obtain⟨w0,x,tp,bp,mp,d,l,uses,hR⟩:=hV;have hP:=hR.now;exact⟨(qP hP.ok hP.right).1,(qP hP.ok hP.right).2,fun t ht=>(Hp hP t).1 ((mw s T t).1 ht),jL hasc hP.ids⟩
 obtain⟨hg1,hg2,hgh,hgr⟩:=hgb;intro w1 hw1;have b1:Below w.heap.size w w1:=by subst hw1;exact af _ _
 have l1:w1.heap[w.heap.size]? =some (.cells #[.pointer (some ⟨v,0,none⟩)] 69 (0,0)):=by subst hw1;exact ak _ _
 refine⟨_,bA l1,?_⟩;have hV1:=hV.on b1;refine(xV w1 v s T hV1 hasc).mono ?_;rintro e w2 ⟨ids,rfl,oids,b2⟩;refine⟨_,_,_,rfl,?_⟩;intro w3 hw3;refine gG hw3 rfl ?_;intro w4 l4 b4;have b24:=ae b2 b4;have b14:=ae b1 b24;have oids4:=bI (aE oids b4) (Nat.zero_le _);have hin:=(LsAt.of_own fA oids4).n;have l14:=ah b24 l1;have hV4:=hV.on b14;refine⟨_,bA l14,ac.no rfl ⟨ids.a,ids.n,ids.c,bA l4,ids.a,ids.n,ids.c,bA l4,Ar.nat ((bx s T).length*(bx s T).length) (by rw [hin];simp) (by
  have:(bx s T).length*(bx s T).length≤1032*1032:=Nat.mul_le_mul hg2 hg2;omega) (ac.mk (fun hm=>⟨hV4,au.of_below b14,?_⟩) fun hm=>?_)⟩⟩
 ·rw [if_pos (of_decide_eq_true hm)]
 have hm:=of_decide_eq_false hm;obtain⟨G,hG⟩:∃G,G=bx s T:=⟨_,rfl⟩;rw [←hG]at oids4 hin hg1 hg2 hgh hgr hm;obtain⟨n,hn⟩:∃n,n=G.length:=⟨_,rfl⟩;rw [←hn]at hin;refine⟨ids.a,ids.n,ids.c,bA l4,_,_,fr _,?_⟩;have b5:=af w4 (.map #[] 0);have m5:bu ba (w4.alloc (.map #[] 0)) w4.heap.size (sq []):=ie w4;obtain⟨w5,hw5⟩:∃w5,w5=w4.alloc (.map #[] 0):=⟨_,rfl⟩;rw [←hw5]at b5 m5;rw [←hw5];intro w6 hw6 w7 hw7;have b6:Below w5.heap.size w5 w6:=by subst hw6;exact af _ _
 have g6:w6.heap[w5.heap.size]? =some (.cells #[ids.v,.map (some w4.heap.size),bZ.v,bZ.v] ro (0,0)):=by subst hw6;exact ak _ _
 refine gG hw7 rfl ?_;intro w8 l8 b8;have b58:=ae b6 b8;have b48:=ae b5 b58;have b08:=ae b14 b48;have hz4:=b14.size;have hz5:=b5.size;have lt4:w4.heap.size<w5.heap.size:=m5.lt;have lt6:w5.heap.size<w6.heap.size:=(Array.getElem?_eq_some_iff.1 g6).1;have lt8:w6.heap.size<w8.heap.size:=(Array.getElem?_eq_some_iff.1 l8).1;have lt2:w2.heap.size<w4.heap.size:=(Array.getElem?_eq_some_iff.1 l4).1;have lt1:w.heap.size<w4.heap.size:=(Array.getElem?_eq_some_iff.1 l14).1;have hvl:=hV.lt;have boxes:∀ {q:World},Below (w4.heap.size) w8 q→q.heap[w.heap.size]? =some (.cells #[.pointer (some ⟨v,0,none⟩)] 69 (0,0))∧q.heap[w2.heap.size]? =some (.cells #[ids.v] dX (0,0)):=by
  intro q hq;exact⟨Below.keeps hq lt1 (ah b48 l14),Below.keeps hq lt2 (ah b48 l4)⟩
 refine⟨ids.a,ids.n,ids.c,bA (ah b48 l4),?_⟩;have oids8:=aE oids4 b48;have idsLt:∀k,ids.v.ownBlock=some k→k<w4.heap.size:=fun k hk=>(b_ oids4 k hk).2;intro I hI;let Inv (i:Nat) (q:World):Prop:=bu ba q w4.heap.size (sq (G.take i))∧(∀j,j≠w4.heap.size→q.heap[j]? =w8.heap[j]?)∧q.heap.size=w8.heap.size∧Below w4.heap.size w4 q;have key:=a_ (α:=World) n Inv (fun i q=>I [.int .i64 (i:Int)] q) w8 ⟨by rw [List.take_zero];exact m5.on b58,fun _ _=>rfl,rfl,b48⟩ ?_ ?_
 ·exact key
 ·rintro i hi ih q ⟨hmap,hs,hz,hB⟩;have hiG:i<G.length:=by omega
  have oq:q.ownsRow 0 bf 1 ids.v ids.n (G.flatMap aQ):=aO oids8 fun k hk=>hs k (by have:=idsLt k hk;omega);obtain⟨p,hp,c0⟩:=bj (LsAt.of_own fA oq).r hiG rfl;have hlook:dV G[i] (sq (G.take i))=none:=by
   rw [td,List.idxOf?_eq_none_iff.2]
   ·rfl
   ·intro hmem;obtain⟨j,hj,e⟩:=List.mem_take_iff_getElem.1 hmem;have:=List.pairwise_iff_getElem.1 hgr j i (by omega) hiG (by omega);omega
  obtain⟨q',hr',hm',hs',hz',hB'⟩:=eO mI my hmap G[i] (.int .i64 (i:Int)) hlook;refine hI _ _ (ac.yes (by simp;omega) (ag.mk p hp ⟨by omega,by omega,_,c0,_,bA (by rw [hs w6.heap.size (by omega)];exact l8),ag.mk _ rfl ⟨_,aj _ _ (by rw [hs w5.heap.size (by omega)];exact ah b8 g6) 1,q',hr',Ar.nat (i+1) rfl (by omega) (ih q' ⟨?_,fun j hj=>by rw [hs' j hj,hs j hj],by rw [hz',hz],hB' _ _ (Nat.le_refl _) hB⟩)⟩⟩));have e:sq (G.take (i+1))=sq (G.take i)++ [(G[i],.int .i64 (i:Int))]:=by
   rw [List.take_add_one,List.getElem?_eq_getElem hiG];have:=DP (G.take i) G[i];rw [List.length_take,Nat.min_eq_left (by omega)]at this;exact this
  rw [e];exact hm'
 ·rintro q ⟨hmap,hs,hz,hB⟩;rw [List.take_of_length_le (by omega)]at hmap;refine hI _ _ (ac.no (by simp;omega) ?_);intro w11 hw11;have b11:Below q.heap.size q w11:=by subst hw11;exact aM q
  have hq8:Below w4.heap.size w8 q:=⟨by rw [hB.os, ←b48.os],by rw [hB.tape, ←b48.tape],by rw [hB.output, ←b48.output],by rw [hz];exact Nat.le_refl _,fun k hk=>hs k (by omega)⟩;have hq8':Below w4.heap.size w8 w11:=hq8.trans (b11.mono (by have:=hq8.size;omega));have hV11:bv w11 v s T:=(hV4.on b5 |> fun h5=>(hV4.on ⟨hB.os,hB.tape,hB.output,hB.size,hB.block⟩)).on b11;have t11:au v w w11:=(au.of_below b14).trans (au.of_below (hB.trans (b11.mono hB.size)));have g11:=ah b11 (show q.heap[w5.heap.size]? =some (.cells #[ids.v,.map (some w4.heap.size),bZ.v,bZ.v] ro (0,0)) by rw [hs _ (by omega)];exact ah b8 g6);have lg11:=ah b11 (show q.heap[w6.heap.size]? =_ by rw [hs _ (by omega)];exact l8);have bx11:=boxes hq8';have m11:=hmap.on b11;have o11:w11.ownsRow 0 bf 1 ids.v ids.n (G.flatMap aQ):=aE (aO oids8 fun k hk=>hs k (by have:=idsLt k hk;omega)) b11;subst hG;have bxL:w.heap.size<w11.heap.size∧w2.heap.size<w11.heap.size∧w6.heap.size<w11.heap.size∧w5.heap.size<w11.heap.size:=⟨(Array.getElem?_eq_some_iff.1 bx11.1).1,(Array.getElem?_eq_some_iff.1 bx11.2).1,(Array.getElem?_eq_some_iff.1 lg11).1,(Array.getElem?_eq_some_iff.1 g11).1⟩;have sz2:w.heap.size≤w2.heap.size:=Nat.le_trans b1.size b2.size;refine⟨_,bA lg11,ids.a,ids.n,ids.c,bA bx11.2,?_⟩;refine(sL w11 ids.n _ (fun i=>lr s T i) v s T hV11 (by omega) ?_).mono ?_
  ·intro i hi q hVq tq;refine bT (by kernel_rfl) ?_;exact C0 q v s T hVq w.heap.size w2.heap.size ids (bx s T) (tq.held (by omega) bx11.1) (tq.held (by omega) bx11.2) (hV11.own_touch tq o11 (by decide)) hgh i (by omega)
  rintro e w12 ⟨al,rfl,oal,hV12,t12⟩;rw [hin,hn]at oal;have lg12:=t12.held (by omega) lg11;have g12:=t12.held (by omega) g11;have x12:=t12.held (by omega) bx11.1;have y12:=t12.held (by omega) bx11.2;have o12:=hV11.own_touch t12 o11 (by decide);have m12:=m11.same (t12.block _ m11.lt (by omega));refine⟨al.a,al.n,al.c,rfl,⟨bA lg12,trivial⟩,ag.mk _ rfl ⟨rfl,⟨_,by rw [aW g12];rfl⟩,be g12,?_⟩⟩;intro w13 hw13;have g13:w13.heap[w5.heap.size]? =some (.cells #[ids.v,.map (some w4.heap.size),bZ.v,al.v] ro (0,0)):=by subst hw13;exact bL g12 _
  have hs13:∀j,j≠w5.heap.size→w13.heap[j]? =w12.heap[j]? :=by
   intro j hj;subst hw13;exact aq (by rw [ay];exact hj)
  have hV13:bv w13 v s T:=by subst hw13;exact hV12.put g12 (by decide) (by omega) _
  have t13:au v w w13:=by subst hw13;exact(t11.trans t12).put (by omega) _
  have lg13:w13.heap[w6.heap.size]? =_:=(hs13 _ (by omega)).trans lg12;have x13:w13.heap[w.heap.size]? =_:=(hs13 _ (by omega)).trans x12;have y13:w13.heap[w2.heap.size]? =_:=(hs13 _ (by omega)).trans y12;have hR13:jI w13 w5.heap.size (bx s T) (lr s T) (dZ s T) ids bZ al w4.heap.size [] 0:=
   ⟨g13,aO o12 fun k hk=>hs13 k fun e=>az o12 g12 (by decide) (by rw [hk,e]),m12.same (hs13 _ (by omega)),cP _ _ _ _ qg,rfl,(by intro i r h;cases h),aO (bI oal (Nat.zero_le _)) fun k hk=>hs13 k fun e=>az oal g12 (by decide) (by rw [hk,e])⟩
  refine⟨ids.a,ids.n,ids.c,bA y13,?_⟩;intro I2 hI2;let Inv2 (i:Nat) (q:World):Prop:=∃rows rs,jI q w5.heap.size (bx s T) (lr s T) (dZ s T) ids rows al w4.heap.size rs i∧q.ownsRow w.heap.size m' 1 rows.v rows.n (rs.flatMap qg)∧bv q v s T∧au v w q∧q.heap[w6.heap.size]? =some (.cells #[.pointer (some (nb w5))] 32 (0,0))∧q.heap[w.heap.size]? =some (.cells #[.pointer (some ⟨v,0,none⟩)] 69 (0,0))∧q.heap[w2.heap.size]? =some (.cells #[ids.v] dX (0,0));have key2:=a_ (α:=World) n Inv2 (fun i q=>I2 [.int .i64 (i:Int)] q) w13 ⟨bZ,[],hR13,cP _ _ _ _ qg,hV13,t13,lg13,x13,y13⟩ ?_ ?_
  ·exact key2
  ·rintro i hi ih z ⟨rows,rs,hR,orow,hVz,tz,lgz,xz,yz⟩;have hiG:i< (bx s T).length:=by omega
   have zb:w.heap.size<z.heap.size∧w2.heap.size<z.heap.size∧w6.heap.size<z.heap.size∧w5.heap.size<z.heap.size:=⟨(Array.getElem?_eq_some_iff.1 xz).1,(Array.getElem?_eq_some_iff.1 yz).1,(Array.getElem?_eq_some_iff.1 lgz).1,(Array.getElem?_eq_some_iff.1 hR.blk).1⟩;have hlz:=LsAt.of_own fA hR.oi;obtain⟨p,hp,c0⟩:=bj hlz.r hiG rfl;have hnz:=hlz.n;refine hI2 _ _ (ac.yes (by simp;omega) (ag.mk p hp ⟨by omega,by omega,_,c0,?_⟩));intro w15 hw15 w16 hw16;refine CY hw15 hw16 rfl rfl ?_;intro w18 bi18 ba18 b18;have zs15:z.heap.size<w15.heap.size:=by subst hw15;rw [av];omega
   intro w19 hw19;have b19':Below w18.heap.size w18 w19:=by subst hw19;exact aM w18
   have b19:=ae b18 b19';have bi19:=ah b19' bi18;have ba19:=ah b19' ba18;have hR19:=hR.on b19;have hV19:=hVz.on b19;have lg19:=ah b19 lgz;have x19:=ah b19 xz;have y19:=ah b19 yz;have or19:=aE orow b19;have t19:au v w w19:=tz.then_off b19 tz.size;refine⟨_,bA lg19,_,bA lg19,ag.mk _ rfl ⟨rows.a,rows.n,rows.c,by rw [aW hR19.blk];rfl,ids.a,ids.n,ids.c,bA y19,?_⟩⟩;refine(sL w19 ids.n _ (fun k=>dZ s T i k) v s T hV19 (by omega) ?_).mono ?_
   ·intro k hk q hVq tq;refine bT (by kernel_rfl) ?_;refine DG q v s T hVq w6.heap.size z.heap.size w.heap.size w15.heap.size w2.heap.size w5.heap.size ids rows al w4.heap.size rs i i k ⟨by omega,by omega,by omega,by omega,by omega⟩ (hR19.touch hV19 tq) hgh hg2 (tq.held (by omega) lg19) (tq.held (by omega) bi19) (tq.held (by omega) x19) (tq.held (by omega) (by rw [fO hiG];exact ba19)) (tq.held (by omega) y19) hiG (by omega)
   rintro e w20 ⟨r,rfl,orw,hV20,t20⟩;rw [hin,hn]at orw;have hR20:=hR19.touch hV19 t20;have lg20:=t20.held (by omega) lg19;have x20:=t20.held (by omega) x19;have y20:=t20.held (by omega) y19;have or20:=hV19.own_touch t20 or19 (by decide);refine⟨r.a,r.n,r.c,rfl,⟨by rw [aW hR20.blk];rfl,trivial⟩,⟨bA lg20,trivial⟩,⟨bA lg20,trivial⟩,?_⟩;intro w21 hw21;have b21:Below w20.heap.size w20 w21:=by subst hw21;exact af _ _
   have lg21:=ah b21 lg20;have wb:w.heap.size≤w20.heap.size:=(t19.trans t20).size;obtain⟨rows',w22,hn22,hrun,own22,hB22,hk22⟩:=FW.push or20 r hw21 rfl wb (by have:=(LsAt.of_own FW or20).n;have:=hR.rl;omega) (by decide);refine⟨⟨by rw [aW (ah b21 hR20.blk)];rfl,trivial⟩,⟨bA lg21,trivial⟩,⟨bA lg21,trivial⟩,rows'.a,rows'.n,rows'.c,w22,hrun,?_⟩;have kp:∀ {k:Nat} {o:Obj},w20.heap[k]? =some o→rows.v.ownBlock≠some k→w22.heap[k]? =some o:=fun {k o} h hne=>(hk22 k (Array.getElem?_eq_some_iff.1 h).1 hne).trans h;have lg22:=kp lg20 (az or20 lg20 (by decide));have x22:=kp x20 (az or20 x20 (by decide));have y22:=kp y20 (az or20 y20 (by decide));have g22:=kp hR20.blk (az or20 hR20.blk (by decide));have B22:=hB22 w20 (Below.refl _ _);have hV22:=hV20.growE B22 hvl or20 (by decide) hk22;have t22:au v w w22:=(t19.trans t20).then_off B22 (Nat.le_refl _);refine⟨⟨bA lg22,trivial⟩,ag.mk _ rfl ⟨rfl,⟨_,by rw [aW g22];rfl⟩,be g22,?_⟩⟩;intro w23 hw23;have hs23:∀j,j≠w5.heap.size→w23.heap[j]? =w22.heap[j]? :=by
    intro j hj;subst hw23;exact aq (by rw [ay];exact hj)
   have same:∀ {B sz n:Nat} {e:TypeId} {u:Value} {xs:List Value},w20.ownsRow B e sz u n xs→e≠m'→e≠ro→w23.ownsRow B e sz u n xs:=by
    intro B sz n e u xs h h1 h2;refine aO h fun k hk=>?_;rw [hs23 k fun e=>az h hR20.blk h2 (by rw [hk,e])];exact hk22 k (b_ h k hk).2 (bW h or20 h1 k hk)
   have own23:w23.ownsRow w.heap.size m' 1 rows'.v rows'.n ((rs++ [r]).flatMap qg):=aO own22 fun k hk=>hs23 k fun e=>az own22 g22 (by decide) (by rw [hk,e]);refine Ar.nat (i+1) rfl (by omega) (ih w23 ⟨rows',rs++ [r],?_,own23,?_,?_,(hs23 _ (by omega)).trans lg22,(hs23 _ (by omega)).trans x22,(hs23 _ (by omega)).trans y22⟩)
   ·refine⟨by subst hw23;exact bL g22 _,same hR20.oi (by decide) (by decide),?_,bI own23 (Nat.zero_le _),by have:=hR.rl;simp;omega,?_,same hR20.oal (by decide) (by decide)⟩
    ·exact hR20.map.same ((hs23 _ (by omega)).trans (hk22 _ hR20.map.lt (dU or20 hR20.map)))
    ·intro j r' hj;have hrl:=hR.rl;by_cases h:j<rs.length
     ·rw [List.getElem?_append_left h]at hj;exact same (hR20.each j r' hj) (by decide) (by decide)
     ·have hji:j=i:=by
       have:=(List.getElem?_eq_some_iff.1 hj).1;simp at this;omega
      subst hji;rw [List.getElem?_append_right (by omega),hrl,Nat.sub_self]at hj;cases hj;exact same (bI orw (Nat.zero_le _)) (by decide) (by decide)
   ·subst hw23;exact hV22.put g22 (by decide) (by omega) _
   ·subst hw23;exact t22.put (by omega) _
  ·rintro z ⟨rows,rs,hR,orow,hVz,tz,lgz,xz,yz⟩;rw [hn]at hR;refine hI2 _ _ (ac.no (by simp;omega) ⟨_,bA lgz,hVz,tz,?_⟩);rw [if_neg (by have:=hm;rw [hn]at*;omega)];exact⟨w5.heap.size,rfl,⟨ids,rows,al,w4.heap.size,rs,hR⟩,by omega⟩
def cnt:Nat→Nat→Nat
 |0,_=>0
 |k+1,x=>x%2+cnt k (x/2)
def s1 (x:Nat):Nat:=(x/2&&&6148914691236517205)+(x&&&6148914691236517205)
def s2 (x:Nat):Nat:=(x/4&&&3689348814741910323)+(x&&&3689348814741910323)
def s3 (x:Nat):Nat:=x/16+x
def s4 (x:Nat):Nat:=(x&&&1085102592571150095)+(x&&&1085102592571150095)/256
def s5 (x:Nat):Nat:=x+x/65536
theorem Oh (x k:Nat) (hk:k≤64):Int.fdiv (x:Int) (2^(min (k:Int).toNat (IntKind.bits .u64)))=((x/2^k:Nat):Int):=by
 show Int.fdiv (x:Int) (2^(min k 64))=_;rw [Nat.min_eq_left hk,Int.fdiv_eq_ediv_of_nonneg _ (Int.pow_nonneg (by decide))];simp
theorem L0 (x m:Nat) (hx:x<2^64) (hm:m<2^64):IntKind.wrap .u64 ((BitVec.ofInt (IntKind.bits .u64) (x:Int)&&&BitVec.ofInt (IntKind.bits .u64) (m:Int)).toNat:Int)=((x&&&m:Nat):Int):=by
 show IntKind.wrap .u64 ((BitVec.ofInt 64 (x:Int)&&&BitVec.ofInt 64 (m:Int)).toNat:Int)=_;rw [BitVec.toNat_and,fJ _ hx,fJ _ hm];exact iK _ (Nat.lt_of_le_of_lt Nat.and_le_left hx)
abbrev jE (w:World) (g:Nat) (s:ar) (T:List aP):Prop:=pR w g (bx s T) (lr s T) (dZ s T)
def oQ (s:ar) (T:List aP) (id:Int):Option Nat:=(bx s T).idxOf? id
theorem Bi {l:List Int} {a:Int} {i:Nat} (h:l.idxOf? a=some i):∃h:i<l.length,l[i]=a:=by
 have:=List.findIdx?_eq_some_iff_getElem.1 h;obtain⟨h1,h2,_⟩:=this;exact⟨h1,by simpa using h2⟩
theorem dF {s:ar} {T:List aP} {id:Int} {i:Nat} (h:oQ s T id=some i):i< (bx s T).length∧(bx s T).getD i 0=id∧gp s T id=true:=by
 obtain⟨h1,h2⟩:=Bi h;exact⟨h1,by rw [fO h1];exact h2,(mw s T id).1 (by rw [←h2];exact List.getElem_mem h1)⟩
theorem vw {s:ar} {T:List aP} {id:Int} (h:oQ s T id=none):gp s T id=false:=by
 have h1:=List.idxOf?_eq_none_iff.1 h;cases hh:gp s T id with
 |false=>rfl
 |true=>exact absurd ((mw s T id).2 hh) h1
theorem B6 {s:ar} {T:List aP} (id:Int):(oQ s T id).isSome=gp s T id:=by
 cases h:oQ s T id with
 |none=>exact(vw h).symm
 |some i=>exact(dF h).2.2.symm
def M_ (s:ar) (T:List aP) (id:Int):Bool:=gp s T id&&decide ((aL s T).Canon [id])
theorem Lg:(Tryz.prog.info? bf).map (·.zero)=some (some (.int .i64 0)):=by kernel_rfl
theorem jS (w:World) (g:Nat) (s:ar) (T:List aP) (h:jE w g s T) (id:Int):
  CP 20 #[.pointer (some ⟨g,0,none⟩),.int .i64 id] w fun e w'=>e= .returned (.tuple #[.int .i64 (((oQ s T id).getD 0:Nat):Int),.bool (oQ s T id).isSome])∧w'=w:=by
 refine aN (Bl (some ⟨g,0,none⟩) id w) ?_;obtain⟨ids,rows,alone,mb,rs,hR⟩:=h;refine ac.no rfl (ag.mk _ rfl ⟨some mb,by rw [aW hR.blk];rfl,?_⟩);have hl:=fh mI my Lg hR.map id;rw [td]at hl;have e:((((bx s T).idxOf? id).map fun i:Nat=>Value.int .i64 (i:Int)).getD (.int .i64 0))= .int .i64 (((oQ s T id).getD 0:Nat):Int):=by
  show _=Value.int .i64 ((((bx s T).idxOf? id).getD 0:Nat):Int);cases(bx s T).idxOf? id<;>rfl
 rw [e,Option.isSome_map]at hl;exact⟨_,_,w,hl,rfl,rfl⟩
theorem zk (w:World) (g:Nat) (s:ar) (T:List aP) (h:jE w g s T) (hn:(bx s T).length≤1032) (id:Int):
  CP 90 #[.pointer (some ⟨g,0,none⟩),.int .i64 id] w fun e w'=>e= .returned (.bool (M_ s T id))∧w'=w:=by
 refine aN (zJ (some ⟨g,0,none⟩) id w) ?_;refine(jS w g s T h id).mono ?_;rintro e w1 ⟨rfl,rfl⟩;obtain⟨ids,rows,alone,mb,rs,hR⟩:=h;refine⟨_,_,rfl,ac.mk (fun h1=>?_) fun h1=>⟨?_,rfl⟩⟩
 ·obtain⟨i,hi⟩:=Option.isSome_iff_exists.1 h1;obtain⟨hi1,hi2,hi3⟩:=dF hi;have al1:=LsAt.of_own qq hR.oal;refine ag.mk _ rfl ⟨alone.a,alone.n,alone.c,by rw [aW hR.blk];rfl,?_⟩;rw [hi];refine(jZ w1 alone.a alone.n alone.c _ (lr s T) al1.r al1.n (by omega) i hi1).mono ?_;rintro e w2 ⟨rfl,rfl⟩;refine⟨_,rfl,?_,rfl⟩;unfold M_ lr;rw [hi2,hi3,Bool.true_and]
 ·rw [B6]at h1;unfold M_;rw [h1,Bool.false_and]
theorem Hj {s:ar} {T:List aP} {w:World} {g:Nat} {ids rows alone:Sl} {mb:Nat} {rs:List Sl} (hR:jI w g (bx s T) (lr s T) (dZ s T) ids rows alone mb rs (bx s T).length) (i:Nat) (hi:i< (bx s T).length):∃(p:Addr) (r:Sl),rows.a=some p∧i<rows.n∧w.cell? (p.add (i*1))=some (.slice r.a r.n r.c)∧LsAt cY 1 w r (br (bx s T).length (dZ s T i)):=by
 have hls:=LsAt.of_own FW hR.orows;have hl:=hR.rl;have hi2:i<rs.length:=by omega
 obtain⟨p,hp,c0⟩:=bj hls.r hi2 (v:=rs[i].v) rfl;exact⟨p,rs[i],hp,by rw [hls.n];exact hi2,c0,LsAt.of_own qq (hR.each i _ (List.getElem?_eq_getElem hi2))⟩
theorem fI (w:World) (g:Nat) (s:ar) (T:List aP) (h:jE w g s T):
  CP 19 #[.pointer (some ⟨g,0,none⟩)] w fun e w'=>e= .returned (.int .i64 (((bx s T).length:Nat):Int))∧w'=w:=by
 refine aN (An (some ⟨g,0,none⟩) w) ?_;obtain⟨ids,rows,alone,mb,rs,hR⟩:=h;refine ac.no rfl (ag.mk _ rfl ⟨ids.a,ids.n,ids.c,by rw [aW hR.blk];rfl,?_,rfl⟩);rw [(LsAt.of_own fA hR.oi).n]
theorem wr (w:World) (g:Nat) (s:ar) (T:List aP) (h:jE w g s T) (place:Int):
  CP 38 #[.pointer (some ⟨g,0,none⟩),.int .i64 place] w fun e w'=>e= .returned (if 0≤place∧place< ((bx s T).length:Int)then .tuple #[.int .i64 ((bx s T).getD place.toNat 0),.bool true]else .tuple #[.int .i64 0,.bool false])∧w'=w:=by
 refine aR (BL (some ⟨g,0,none⟩) place w (fun u w'=>u=(if 0≤place∧place< ((bx s T).length:Int)then .tuple #[.int .i64 ((bx s T).getD place.toNat 0),.bool true]else .tuple #[.int .i64 0,.bool false])∧w'=w) ?_) (by rintro v w' ⟨rfl,h⟩;exact⟨rfl,h⟩);refine ac.mk (fun h1=>⟨?_,rfl⟩) fun h1=>?_
 ·rw [if_neg (by have:=of_decide_eq_true h1;omega)]
 have h1:=of_decide_eq_false h1;refine(fI w g s T h).mono ?_;rintro e w1 ⟨rfl,rfl⟩;refine⟨_,rfl,ac.mk (fun h2=>⟨?_,rfl⟩) fun h2=>?_⟩
 ·rw [if_neg (by have:=of_decide_eq_true h2;omega)]
 have h2:=of_decide_eq_false h2;obtain⟨ids,rows,alone,mb,rs,hR⟩:=h;obtain⟨i,rfl⟩:∃i:Nat,place=i:=⟨place.toNat,by omega⟩;have hi:i< (bx s T).length:=by omega
 have hls:=LsAt.of_own fA hR.oi;obtain⟨p,hp,c0⟩:=bj hls.r hi rfl;have:=hls.n;refine ag.mk _ rfl ⟨ids.a,ids.n,ids.c,by rw [aW hR.blk];rfl,ag.mk p hp ⟨by omega,by omega,_,c0,?_,rfl⟩⟩;rw [if_pos ⟨by omega,by omega⟩];show _=Value.tuple #[.int .i64 ((bx s T).getD i 0),.bool true];rw [fO hi]
theorem va (w:World) (a:Option Addr) (c:Nat) (xs:List Int) (hr:Rw cY 1 w a xs) (hl:xs.length≤1000000000):
  CP 162 #[.slice a xs.length c] w fun e w'=>∃s:Sl,e= .returned s.v∧s.n=xs.length∧w'.ownsRow w.heap.size gC 1 s.v s.n (xs.flatMap cY)∧Below w.heap.size w w':=by
 refine aN (vL a xs.length c w) ?_;refine ac.mk (fun h0=>?_) fun h0=>?_
 ·have hx:xs= []:=by
   cases xs with
   |nil=>rfl
   |cons x t=>
    obtain⟨p,hp,_⟩:=hr 0 x rfl;rw [hp]at h0;cases h0
  subst hx;exact⟨⟨none,0,0⟩,rfl,rfl,c_ _ _ _ _,Below.refl _ _⟩
 ·obtain⟨p,rfl⟩:∃p,a=some p:=by
   cases a with
   |none=>cases h0
   |some p=>exact⟨p,rfl⟩
  intro w1 hw1;obtain⟨A,C,w2,h2,h3,h4⟩:=iS (enc:=cY) (sz:=1) (fun _=>rfl) (by decide) (fun x u hu=>by rw [List.mem_singleton.1 hu];rfl) m' gC zT uJ rfl w ⟨some p,xs.length,c⟩ xs (.inr ⟨p,rfl⟩) hr rfl (by simp only;omega) (by simp only;omega) w1 hw1;exact⟨A,xs.length,C,w2,h2,⟨A,xs.length,C⟩,rfl,rfl,h3,h4⟩
theorem DK (w:World) (g:Nat) (s:ar) (T:List aP) (h:jE w g s T) (hn:(bx s T).length≤1032) (id:Int):
  CP 103 #[.pointer (some ⟨g,0,none⟩),.int .i64 id] w fun e w'=>Below w.heap.size w w'∧((oQ s T id=none∧e= .returned (.slice none 0 0))∨∃i l,oQ s T id=some i∧e= .returned (Sl.v l)∧w'.ownsRow w.heap.size gC 1 l.v l.n ((br (bx s T).length (dZ s T i)).flatMap cY)):=by
 refine aR (vA (some ⟨g,0,none⟩) id w (fun u w'=>Below w.heap.size w w'∧((oQ s T id=none∧u= .slice none 0 0)∨∃i l,oQ s T id=some i∧u=Sl.v l∧w'.ownsRow w.heap.size gC 1 l.v l.n ((br (bx s T).length (dZ s T i)).flatMap cY))) ?_) (by rintro v w' ⟨h1,⟨h2,rfl⟩ |⟨i,l,h2,rfl,h3⟩⟩;exact⟨h1,.inl ⟨h2,rfl⟩⟩;exact⟨h1,.inr ⟨i,l,h2,rfl,h3⟩⟩);refine(jS w g s T h id).mono ?_;rintro e w1 ⟨rfl,rfl⟩;obtain⟨ids,rows,alone,mb,rs,hR⟩:=h;refine⟨_,_,rfl,ac.mk (fun h1=>⟨Below.refl _ _,.inl ⟨?_,rfl⟩⟩) fun h1=>?_⟩
 ·cases hp:oQ s T id with
  |none=>rfl
  |some i=>rw [hp]at h1;cases h1
 ·obtain⟨i,hi⟩:=Option.isSome_iff_exists.1 (by simpa using h1);obtain⟨hi1,hi2,hi3⟩:=dF hi;obtain⟨p,r,hp,hin,hc,hls⟩:=Hj hR i hi1;rw [hi];refine ag.mk _ rfl ⟨rows.a,rows.n,rows.c,by rw [aW hR.blk];rfl,ag.mk p hp ⟨by omega,by show((i:Nat):Int) <_;omega,r.a,r.n,r.c,hc,?_⟩⟩;rw [hls.n];refine(va w1 r.a r.c _ hls.r (by rw [cL];omega)).mono ?_;rintro e w2 ⟨l,rfl,hl,ho,b2⟩;exact⟨l.a,l.n,l.c,rfl,b2,.inr ⟨i,l,rfl,rfl,ho⟩⟩
def rn (V:Voc) (ids:List Int):Option Nat→Prop
 |none=>∀(i:Nat) (h:i<ids.length),V.Has ids[i]∧V.Canon (ids.take (i+1))
 |some k=>(∀(i:Nat) (h:i<ids.length),i<k→V.Has ids[i]∧V.Canon (ids.take (i+1)))∧∃h:k<ids.length,¬(V.Has ids[k]∧V.Canon (ids.take (k+1)))
theorem jJ {s:ar} {T:List aP} (hok:gf T) (t:Int):gp s T t=true↔(aL s T).Has t:=by
 unfold gp;rw [decide_eq_true_eq,iy hok];exact Or.comm
theorem JX (w w1:World) (xs:List Int) (c:Array Value) (hc:c=(xs.map fun n=>Value.int .i64 n).toArray) (hw1:w1=w.alloc (.cells c bf)):Rw aQ 1 w1 (some (nb w)) xs:=by
 intro j x hj;have l1:w1.heap[w.heap.size]? =some (.cells c bf (0,0)):=by subst hw1;exact ak _ _
 refine⟨nb w,rfl,(Array.getElem?_eq_some_iff.1 l1).1,fun k v hk=>?_⟩
 match k,hk with
 |0,hk=>
  cases hk;rw [ax,Nat.mul_one,aj _ _ l1,hc];simp [hj]
theorem Fh {w:World} {v:Nat} {y:sj} {s:ar} {T:List aP} (h:Az w v y s T):(bx s T).length≤1006∧(((bx s T).length*(bx s T).length:Nat):Int)≤1048576:=by
 have h1:=h.now.ok.most;have h2:=h.few;have h3:=h.ids;have hT:T.length≤1000:=h1;have hl:(bx s T).length≤1006:=by rw [dP];omega
 refine⟨hl,?_⟩;have:(bx s T).length*(bx s T).length≤1006*1006:=Nat.mul_le_mul hl hl;omega
open Go Go.Value
def OH (a:OA) (b c:Nat) (d:OA) (f g:Nat) (h:OA) (i j:Nat) (k:OA) (l m:Nat) (n o:Int) (w:World) (R:RW):Prop:=
 ∀p,p=w.alloc (.cells #[slice a b c,slice d f g,slice h i j,slice k l m] 27)→
 ∃q r s t x y z a1 b1 c1 d1 e1,(p.cell? (nb w)=some (slice q r s)∧p.cell? ((nb w).add 1)=some (slice t x y)∧p.cell? ((nb w).add 2)=some (slice z a1 b1)∧p.cell? ((nb w).add 3)=some (slice c1 d1 e1)∧True)∧
 CP 11 #[agg #[slice q r s,slice t x y,slice z a1 b1,slice c1 d1 e1]] p (fun f1 g1=>
 ∃h1,f1= .returned (int .i64 h1)∧
 ac (decide (h1>0))
 (CP 35 #[] g1 (fun i1 j1=>
 ∃k1,i1= .returned (bool k1)∧
 R (bool k1) j1))
 (CP 35 #[] g1 (fun l1 m1=>
 ∃n1,l1= .returned (bool n1)∧
 ac (!n1)
 (CP 35 #[] m1 (fun o1 p1=>
 ∃q1,o1= .returned (bool q1)∧
 R (bool q1) p1))
 (∃r1 s1 t1 u1 v1 x1 y1 z1 a2 b2 c2 d2,(m1.cell? (nb w)=some (slice r1 s1 t1)∧m1.cell? ((nb w).add 1)=some (slice u1 v1 x1)∧m1.cell? ((nb w).add 2)=some (slice y1 z1 a2)∧m1.cell? ((nb w).add 3)=some (slice b2 c2 d2)∧True)∧
 CP 36 #[agg #[slice r1 s1 t1,slice u1 v1 x1,slice y1 z1 a2,slice b2 c2 d2],int .i64 8] m1 (fun e2 f2=>
 ∃g2 h2 i2 j2 k2 l2 m2 n2 o2 p2 q2 r2 s2 t2 u2 v2 x2 y2,e2= .returned (tuple #[pointer g2,pointer h2,pointer i2,agg #[slice j2 k2 l2,slice m2 n2 o2,slice p2 q2 r2,slice s2 t2 u2,slice v2 x2 y2]])∧
 ∀z2,z2=f2.alloc (.cells #[slice none 0 0,slice none 0 0,slice none 0 0,slice none 0 0,slice none 0 0] 40)→
 aB z2 (nb f2) (fun a3=>
 ac (Option.isNone g2)
 (R (bool false) a3)
 ((8:Int)≠0∧
 Ar .i64 ((1:Int)+(IntKind.wrap .i64 (Int.tmod o 8))) (fun b3=>
 CP 37 #[pointer h2] a3 (fun c3 d3=>
 ∃e3,c3= .returned (int .i64 e3)∧
 (IntKind.wrap .u64 e3:Int)≠0∧
 ∀f3,f3=d3.alloc (.cells #[slice none 0 0] 88)→
 (slice none 0 0).oneCell'=true∧(∃u,f3.cell? (nb d3)=some u)∧f3.frozen? (nb d3)=false∧
 ∀g3,g3=(f3.setCell (nb d3) (slice none 0 0))→
 ∀h3:KW,(∀(i3:Int) (j3:Bool) (k3:World),(CP 19 #[pointer i2] k3 (fun l3 m3=>
 ∃n3,l3= .returned (int .i64 n3)∧
 ac (decide (i3<n3))
 (CP 38 #[pointer i2,int .i64 i3] m3 (fun o3 p3=>
 ∃q3 r3,o3= .returned (tuple #[int .i64 q3,bool r3])∧
 CP 39 #[pointer h2,int .i64 (IntKind.wrap .i64 (Int.tmod (IntKind.wrap .u64 n) (IntKind.wrap .u64 e3))),int .i64 q3] p3 (fun s3 t3=>
 ∃u3 v3,s3= .returned (tuple #[int .i64 u3,bool v3])∧
 ac (!v3)
 (R (bool false) t3)
 (∀x3,x3=t3.drew→
 ∃y3 z3 a4,(x3.cell? (nb d3)=some (slice y3 z3 a4)∧True)∧
 Ar .i64 (b3-1) (fun b4=>
 CP 41 #[pointer g2,int .i64 u3,int .i64 b4] x3 (fun c4 d4=>
 ∃e4 f4 g4,c4= .returned (agg #[slice e4 f4 g4])∧
 (d4.cell? (nb d3)=some (slice y3 z3 a4)∧True)∧
 ∀h4,h4=d4.alloc (.cells #[slice e4 f4 g4] 88)→
 (h4.cell? (nb d3)=some (slice y3 z3 a4)∧True)∧
 CP 40 #[agg #[slice y3 z3 a4],slice (some (nb d4)) 1 1] h4 (fun i4 j4=>
 ∃k4 l4 m4,i4= .returned (agg #[slice k4 l4 m4])∧
 (slice k4 l4 m4).oneCell'=true∧(∃u,j4.cell? (nb d3)=some u)∧j4.frozen? (nb d3)=false∧
 ∀n4,n4=(j4.setCell (nb d3) (slice k4 l4 m4))→
 Ar .i64 (i3+1) (fun o4=>
 h3 [int .i64 o4,bool j3] n4))))))))
 (CP 41 #[pointer g2,int .i64 (IntKind.wrap .i64 (Int.tmod (IntKind.wrap .u64 n) (IntKind.wrap .u64 e3))),int .i64 0] m3 (fun p4 q4=>
 ∃r4 s4 t4,p4= .returned (agg #[slice r4 s4 t4])∧
 ∀u4,u4=q4.alloc (.cells #[slice none 0 0] 88)→
 (slice r4 s4 t4).oneCell'=true∧(∃u,u4.cell? (nb q4)=some u)∧u4.frozen? (nb q4)=false∧
 ∀v4,v4=(u4.setCell (nb q4) (slice r4 s4 t4))→
 ∀x4,x4=v4.drew→
 ∃y4 z4 a5,(x4.cell? (nb d3)=some (slice y4 z4 a5)∧True)∧
 CP 41 #[pointer g2,int .i64 (IntKind.wrap .i64 (Int.tmod (IntKind.wrap .u64 n) (IntKind.wrap .u64 e3))),int .i64 b3] x4 (fun b5 c5=>
 ∃d5 e5 f5,b5= .returned (agg #[slice d5 e5 f5])∧
 (c5.cell? (nb d3)=some (slice y4 z4 a5)∧True)∧
 CP 42 #[agg #[slice d5 e5 f5],agg #[slice y4 z4 a5]] c5 (fun g5 h5=>
 ∃i5,g5= .returned (int .i64 i5)∧
 ac (i5==0)
 (∃j5 k5 l5,(h5.cell? (nb q4)=some (slice j5 k5 l5)∧True)∧
 CP 43 #[agg #[slice j5 k5 l5]] h5 (fun m5 n5=>
 ∃o5,m5= .returned (bool o5)∧
 CP 44 #[pointer h2,int .i64 (IntKind.wrap .i64 (Int.tmod (IntKind.wrap .u64 n) (IntKind.wrap .u64 e3)))] n5 (fun p5 q5=>
 ∃r5,p5= .returned (bool r5)∧
 R (bool (!(o5==r5))) q5)))
 (R (bool false) h5)))))))→h3 [int .i64 i3,bool j3] k3)→
 h3 [int .i64 0,bool false] g3)))) [slice j2 k2 l2,slice m2 n2 o2,slice p2 q2 r2,slice s2 t2 u2,slice v2 x2 y2] 0)))))
theorem CZ (a:OA) (b c:Nat) (d:OA) (f g:Nat) (h:OA) (i j:Nat) (k:OA) (l m:Nat) (n o:Int) (w:World) (R:RW) (hh:OH a b c d f g h i j k l m n o w R):CR 6 #[agg #[slice a b c,slice d f g,slice h i j,slice k l m],int .i64 n,int .u8 o] w R:=
 aD (fn:=Tryz.f6) (by kernel_rfl) (by kernel_rfl) (by kernel_rfl) (by kernel_rfl) (by kernel_rfl) hh
def N8 (w:World) (R:RW):Prop:=
 CP 31 #[agg #[bool false,slice none 0 0,slice none 0 0,slice none 0 0,slice none 0 0,slice none 0 0]] w (fun a b=>
 ∃c d f,a= .returned (tuple #[pointer c,int .i64 d,int .i64 f])∧
 CP 32 #[pointer c,int .i64 1048576] b (fun g h=>
 ∃i j,g= .returned (tuple #[pointer i,int .i64 j])∧
 CP 54 #[pointer i,int .i64 1048576] h (fun k l=>
 ∃m n,k= .returned (tuple #[pointer m,int .i64 n])∧
 CP 56 #[pointer m] l (fun o p=>
 ∃q,o= .returned (pointer q)∧
 CP 55 #[pointer q,pointer i,int .i64 3] p (fun r s=>
 ∃t x,r= .returned (tuple #[pointer t,int .i64 x])∧
 ∀y,y=s.alloc (.cells #[int .i64 97,int .i64 98] 3)→
 CP 51 #[pointer t,slice (some (nb s)) 2 2] y (fun z a1=>
 ∃b1 c1 d1 e1,z= .returned (tuple #[agg #[slice b1 c1 d1],int .i64 e1])∧
 ∀f1,f1=a1.alloc (.cells #[slice none 0 0] 88)→
 (slice b1 c1 d1).oneCell'=true∧(∃u,f1.cell? (nb a1)=some u)∧f1.frozen? (nb a1)=false∧
 ∀g1,g1=(f1.setCell (nb a1) (slice b1 c1 d1))→
 ac (x==0)
 (CP 45 #[pointer t,int .i64 2] g1 (fun h1 i1=>
 ∃j1 k1 l1,h1= .returned (agg #[slice j1 k1 l1])∧
 CP 46 #[agg #[slice j1 k1 l1]] i1 (fun m1 n1=>
 ∃o1,m1= .returned (string o1)∧
 ac (o1.toList==(⟨#[54,53,53,51,54]⟩:ByteArray).toList)
 (∃p1 q1 r1,(n1.cell? (nb a1)=some (slice p1 q1 r1)∧True)∧
 CP 46 #[agg #[slice p1 q1 r1]] n1 (fun s1 t1=>
 ∃u1,s1= .returned (string u1)∧
 ac (u1.toList==(⟨#[50,52,57,51,48]⟩:ByteArray).toList)
 (R (bool (e1==0)) t1)
 (R (bool false) t1)))
 (R (bool false) n1))))
 (R (bool false) g1)))))))
theorem AK (w:World) (R:RW) (hh:N8 w R):CR 35 #[] w R:=
 aD (fn:=Tryz.f35) (by kernel_rfl) (by kernel_rfl) (by kernel_rfl) (by kernel_rfl) (by kernel_rfl) hh
def NK (a:OA) (b c:Nat) (d:OA) (f g:Nat) (h:OA) (i j:Nat) (k:OA) (l m:Nat) (n:Int) (w:World) (R:RW):Prop:=
 ∀o,o=w.alloc (.cells #[slice a b c,slice d f g,slice h i j,slice k l m] 27)→
 ∀p,p=o.alloc (.cells #[slice none 0 0,slice none 0 0,slice none 0 0,slice none 0 0,slice none 0 0] 40)→
 ∃q r s t u x y z a1 b1 c1 d1,(p.cell? (nb w)=some (slice q r s)∧p.cell? ((nb w).add 1)=some (slice t u x)∧p.cell? ((nb w).add 2)=some (slice y z a1)∧p.cell? ((nb w).add 3)=some (slice b1 c1 d1)∧True)∧
 CP 58 #[agg #[slice q r s,slice t u x,slice y z a1,slice b1 c1 d1]] p (fun e1 f1=>
 ∃g1 h1 i1 j1 k1 l1 m1 n1 o1 p1 q1 r1 s1 t1 u1 v1,e1= .returned (tuple #[pointer g1,agg #[slice h1 i1 j1,slice k1 l1 m1,slice n1 o1 p1,slice q1 r1 s1,slice t1 u1 v1]])∧
 ∀x1,x1=f1.alloc (.cells #[slice none 0 0,slice none 0 0,slice none 0 0,slice none 0 0,slice none 0 0] 40)→
 aB x1 (nb f1) (fun y1=>
 CP 32 #[pointer g1,int .i64 1048576] y1 (fun z1 a2=>
 ∃b2 c2,z1= .returned (tuple #[pointer b2,int .i64 c2])∧
 CP 54 #[pointer b2,int .i64 1048576] a2 (fun d2 e2=>
 ∃f2 g2,d2= .returned (tuple #[pointer f2,int .i64 g2])∧
 CP 56 #[pointer f2] e2 (fun h2 i2=>
 ∃j2,h2= .returned (pointer j2)∧
 CP 55 #[pointer j2,pointer b2,int .i64 n] i2 (fun k2 l2=>
 ∃m2 n2,k2= .returned (tuple #[pointer m2,int .i64 n2])∧
 ac (c2 != 0)
 (∀o2,o2=l2.drew→
 ∃p2 q2 r2 s2 t2 u2 v2 x2 y2 z2 a3 b3 c3 d3 e3,(o2.cell? (nb f1)=some (slice p2 q2 r2)∧o2.cell? ((nb f1).add 1)=some (slice s2 t2 u2)∧o2.cell? ((nb f1).add 2)=some (slice v2 x2 y2)∧o2.cell? ((nb f1).add 3)=some (slice z2 a3 b3)∧o2.cell? ((nb f1).add 4)=some (slice c3 d3 e3)∧True)∧
 aB o2 (nb o) (fun f3=>
 ∃g3 h3 i3 j3 k3 l3 m3 n3 o3 p3 q3 r3 s3 t3 u3,(f3.cell? (nb o)=some (slice g3 h3 i3)∧f3.cell? ((nb o).add 1)=some (slice j3 k3 l3)∧f3.cell? ((nb o).add 2)=some (slice m3 n3 o3)∧f3.cell? ((nb o).add 3)=some (slice p3 q3 r3)∧f3.cell? ((nb o).add 4)=some (slice s3 t3 u3)∧True)∧
 R (tuple #[pointer none,pointer none,pointer none,agg #[slice g3 h3 i3,slice j3 k3 l3,slice m3 n3 o3,slice p3 q3 r3,slice s3 t3 u3]]) f3) [slice p2 q2 r2,slice s2 t2 u2,slice v2 x2 y2,slice z2 a3 b3,slice c3 d3 e3] 0)
 (ac (g2 != 0)
 (∀v3,v3=l2.drew→
 ∃x3 y3 z3 a4 b4 c4 d4 e4 f4 g4 h4 i4 j4 k4 l4,(v3.cell? (nb f1)=some (slice x3 y3 z3)∧v3.cell? ((nb f1).add 1)=some (slice a4 b4 c4)∧v3.cell? ((nb f1).add 2)=some (slice d4 e4 f4)∧v3.cell? ((nb f1).add 3)=some (slice g4 h4 i4)∧v3.cell? ((nb f1).add 4)=some (slice j4 k4 l4)∧True)∧
 aB v3 (nb o) (fun m4=>
 ∃n4 o4 p4 q4 r4 s4 t4 u4 v4 x4 y4 z4 a5 b5 c5,(m4.cell? (nb o)=some (slice n4 o4 p4)∧m4.cell? ((nb o).add 1)=some (slice q4 r4 s4)∧m4.cell? ((nb o).add 2)=some (slice t4 u4 v4)∧m4.cell? ((nb o).add 3)=some (slice x4 y4 z4)∧m4.cell? ((nb o).add 4)=some (slice a5 b5 c5)∧True)∧
 R (tuple #[pointer none,pointer none,pointer none,agg #[slice n4 o4 p4,slice q4 r4 s4,slice t4 u4 v4,slice x4 y4 z4,slice a5 b5 c5]]) m4) [slice x3 y3 z3,slice a4 b4 c4,slice d4 e4 f4,slice g4 h4 i4,slice j4 k4 l4] 0)
 (ac (n2 != 0)
 (∀d5,d5=l2.drew→
 ∃e5 f5 g5 h5 i5 j5 k5 l5 m5 n5 o5 p5 q5 r5 s5,(d5.cell? (nb f1)=some (slice e5 f5 g5)∧d5.cell? ((nb f1).add 1)=some (slice h5 i5 j5)∧d5.cell? ((nb f1).add 2)=some (slice k5 l5 m5)∧d5.cell? ((nb f1).add 3)=some (slice n5 o5 p5)∧d5.cell? ((nb f1).add 4)=some (slice q5 r5 s5)∧True)∧
 aB d5 (nb o) (fun t5=>
 ∃u5 v5 x5 y5 z5 a6 b6 c6 d6 e6 f6 g6 h6 i6 j6,(t5.cell? (nb o)=some (slice u5 v5 x5)∧t5.cell? ((nb o).add 1)=some (slice y5 z5 a6)∧t5.cell? ((nb o).add 2)=some (slice b6 c6 d6)∧t5.cell? ((nb o).add 3)=some (slice e6 f6 g6)∧t5.cell? ((nb o).add 4)=some (slice h6 i6 j6)∧True)∧
 R (tuple #[pointer none,pointer none,pointer none,agg #[slice u5 v5 x5,slice y5 z5 a6,slice b6 c6 d6,slice e6 f6 g6,slice h6 i6 j6]]) t5) [slice e5 f5 g5,slice h5 i5 j5,slice k5 l5 m5,slice n5 o5 p5,slice q5 r5 s5] 0)
 (∀k6,k6=l2.drew→
 ∃l6 m6 n6 o6 p6 q6 r6 s6 t6 u6 v6 x6 y6 z6 a7,(k6.cell? (nb f1)=some (slice l6 m6 n6)∧k6.cell? ((nb f1).add 1)=some (slice o6 p6 q6)∧k6.cell? ((nb f1).add 2)=some (slice r6 s6 t6)∧k6.cell? ((nb f1).add 3)=some (slice u6 v6 x6)∧k6.cell? ((nb f1).add 4)=some (slice y6 z6 a7)∧True)∧
 CP 56 #[pointer f2] k6 (fun b7 c7=>
 ∃d7,b7= .returned (pointer d7)∧
 (c7.cell? (nb f1)=some (slice l6 m6 n6)∧c7.cell? ((nb f1).add 1)=some (slice o6 p6 q6)∧c7.cell? ((nb f1).add 2)=some (slice r6 s6 t6)∧c7.cell? ((nb f1).add 3)=some (slice u6 v6 x6)∧c7.cell? ((nb f1).add 4)=some (slice y6 z6 a7)∧True)∧
 aB c7 (nb o) (fun e7=>
 ∃f7 g7 h7 i7 j7 k7 l7 m7 n7 o7 p7 q7 r7 s7 t7,(e7.cell? (nb o)=some (slice f7 g7 h7)∧e7.cell? ((nb o).add 1)=some (slice i7 j7 k7)∧e7.cell? ((nb o).add 2)=some (slice l7 m7 n7)∧e7.cell? ((nb o).add 3)=some (slice o7 p7 q7)∧e7.cell? ((nb o).add 4)=some (slice r7 s7 t7)∧True)∧
 R (tuple #[pointer m2,pointer d7,pointer b2,agg #[slice f7 g7 h7,slice i7 j7 k7,slice l7 m7 n7,slice o7 p7 q7,slice r7 s7 t7]]) e7) [slice l6 m6 n6,slice o6 p6 q6,slice r6 s6 t6,slice u6 v6 x6,slice y6 z6 a7] 0))))))))) [slice h1 i1 j1,slice k1 l1 m1,slice n1 o1 p1,slice q1 r1 s1,slice t1 u1 v1] 0)
theorem Bx (a:OA) (b c:Nat) (d:OA) (f g:Nat) (h:OA) (i j:Nat) (k:OA) (l m:Nat) (n:Int) (w:World) (R:RW) (hh:NK a b c d f g h i j k l m n w R):CR 36 #[agg #[slice a b c,slice d f g,slice h i j,slice k l m],int .i64 n] w R:=
 aD (fn:=Tryz.f36) (by kernel_rfl) (by kernel_rfl) (by kernel_rfl) (by kernel_rfl) (by kernel_rfl) hh
def N0 (a:OA) (b c:Nat) (d:OA) (f g:Nat) (w:World) (R:RW):Prop:=
 ∀h,h=w.alloc (.cells #[slice a b c] 88)→
 ∀i,i=h.alloc (.cells #[slice none 0 0] 88)→
 ∀j:KW,(∀(k:Int) (l:World),(ac (decide (k< (f:Int)))
 (ag d (fun m=>
 (0:Int)≤k∧k< (f:Int)∧
 ∃n o p,(l.cell? (m.add (k.toNat*1))=some (slice n o p)∧True)∧
 ∀q,q=l.alloc (.cells #[slice none 0 0] 88)→
 (slice n o p).oneCell'=true∧(∃u,q.cell? (nb l)=some u)∧q.frozen? (nb l)=false∧
 ∀r,r=(q.setCell (nb l) (slice n o p))→
 ∃s t x,(r.cell? (nb w)=some (slice s t x)∧True)∧
 ∃y z a1,(r.cell? (nb l)=some (slice y z a1)∧True)∧
 CP 82 #[agg #[slice s t x],agg #[slice y z a1]] r (fun b1 c1=>
 ∃d1 e1 f1,b1= .returned (agg #[slice d1 e1 f1])∧
 (slice d1 e1 f1).oneCell'=true∧(∃u,c1.cell? (nb w)=some u)∧c1.frozen? (nb w)=false∧
 ∀g1,g1=(c1.setCell (nb w) (slice d1 e1 f1))→
 Ar .i64 (k+1) (fun h1=>
 j [int .i64 h1] g1))))
 (∃i1 j1 k1,(l.cell? (nb w)=some (slice i1 j1 k1)∧True)∧
 (slice i1 j1 k1).oneCell'=true∧(∃u,l.cell? (nb h)=some u)∧l.frozen? (nb h)=false∧
 ∀l1,l1=(l.setCell (nb h) (slice i1 j1 k1))→
 ∃m1 n1 o1,(l1.cell? (nb h)=some (slice m1 n1 o1)∧True)∧
 R (agg #[slice m1 n1 o1]) l1))→j [int .i64 k] l)→
 j [int .i64 0] i
theorem AR (a:OA) (b c:Nat) (d:OA) (f g:Nat) (w:World) (R:RW) (hh:N0 a b c d f g w R):CR 40 #[agg #[slice a b c],slice d f g] w R:=
 aD (fn:=Tryz.f40) (by kernel_rfl) (by kernel_rfl) (by kernel_rfl) (by kernel_rfl) (by kernel_rfl) hh
def Ob (a:OA) (b c:Int) (w:World) (R:RW):Prop:=
 ∀d,d=w.alloc (.cells #[slice none 0 0] 88)→
 ac (Option.isNone a)
 ((slice none 0 0).oneCell'=true∧(∃u,d.cell? (nb w)=some u)∧d.frozen? (nb w)=false∧
 ∀f,f=(d.setCell (nb w) (slice none 0 0))→
 ∃g h i,(f.cell? (nb w)=some (slice g h i)∧True)∧
 R (agg #[slice g h i]) f)
 (ac (decide (c<0))
 ((slice none 0 0).oneCell'=true∧(∃u,d.cell? (nb w)=some u)∧d.frozen? (nb w)=false∧
 ∀j,j=(d.setCell (nb w) (slice none 0 0))→
 ∃k l m,(j.cell? (nb w)=some (slice k l m)∧True)∧
 R (agg #[slice k l m]) j)
 (ag a (fun n=>
 ∃o,d.cell? (n.add 2)=some (int .i64 o)∧
 ac (decide (c>o))
 ((slice none 0 0).oneCell'=true∧(∃u,d.cell? (nb w)=some u)∧d.frozen? (nb w)=false∧
 ∀p,p=(d.setCell (nb w) (slice none 0 0))→
 ∃q r s,(p.cell? (nb w)=some (slice q r s)∧True)∧
 R (agg #[slice q r s]) p)
 (ac (decide (b<0))
 ((slice none 0 0).oneCell'=true∧(∃u,d.cell? (nb w)=some u)∧d.frozen? (nb w)=false∧
 ∀t,t=(d.setCell (nb w) (slice none 0 0))→
 ∃x y z,(t.cell? (nb w)=some (slice x y z)∧True)∧
 R (agg #[slice x y z]) t)
 (ag a (fun a1=>
 ∃b1,d.cell? (a1.add 0)=some (pointer b1)∧
 CP 37 #[pointer b1] d (fun c1 d1=>
 ∃e1,c1= .returned (int .i64 e1)∧
 ac (decide (b≥e1))
 ((slice none 0 0).oneCell'=true∧(∃u,d1.cell? (nb w)=some u)∧d1.frozen? (nb w)=false∧
 ∀f1,f1=(d1.setCell (nb w) (slice none 0 0))→
 ∃g1 h1 i1,(f1.cell? (nb w)=some (slice g1 h1 i1)∧True)∧
 R (agg #[slice g1 h1 i1]) f1)
 (ag a (fun j1=>
 CP 83 #[pointer (some ((j1.add 3).add 0)),func (.func 84) #[pointer a] #[]] d1 (fun k1 l1=>
 k1= .returned (tuple #[])∧
 ag a (fun m1=>
 ∃n1 o1 p1,l1.cell? ((m1.add 3).add 3)=some (slice n1 o1 p1)∧
 ag n1 (fun q1=>
 (0:Int)≤c∧c< (o1:Int)∧
 ∃r1 s1 t1,l1.cell? (q1.add (c.toNat*1))=some (slice r1 s1 t1)∧
 ag r1 (fun u1=>
 (0:Int)≤b∧b< (s1:Int)∧
 ∃v1 x1 y1,(l1.cell? (u1.add (b.toNat*1))=some (slice v1 x1 y1)∧True)∧
 (slice v1 x1 y1).oneCell'=true∧(∃u,l1.cell? (nb w)=some u)∧l1.frozen? (nb w)=false∧
 ∀z1,z1=(l1.setCell (nb w) (slice v1 x1 y1))→
 ∃a2 b2 c2,(z1.cell? (nb w)=some (slice a2 b2 c2)∧True)∧
 R (agg #[slice a2 b2 c2]) z1)))))))))))))
theorem AD (a:OA) (b c:Int) (w:World) (R:RW) (hh:Ob a b c w R):CR 41 #[pointer a,int .i64 b,int .i64 c] w R:=
 aD (fn:=Tryz.f41) (by kernel_rfl) (by kernel_rfl) (by kernel_rfl) (by kernel_rfl) (by kernel_rfl) hh
def N7 (a:OA) (b c:Nat) (d:OA) (f g:Nat) (w:World) (R:RW):Prop:=
 ∀h,h=w.alloc (.cells #[slice a b c] 88)→
 ∀i,i=h.alloc (.cells #[slice d f g] 88)→
 ∃j k l,i.cell? ((nb w).add 0)=some (slice j k l)∧
 ∃m n o,i.cell? ((nb h).add 0)=some (slice m n o)∧
 CP 85 #[int .i64 (k:Int),int .i64 (n:Int)] i (fun p q=>
 ∃r,p= .returned (int .i64 r)∧
 ac (r != 0)
 (R (int .i64 r) q)
 (∃s t u,q.cell? ((nb w).add 0)=some (slice s t u)∧
 Ar .i64 ((t:Int)-1) (fun x=>
 ∀y:KW,(∀(z a1:Int) (b1:World),(ac (decide (z≥0))
 (∀c1,c1=b1.drew→
 ∃d1 e1 f1,c1.cell? ((nb w).add 0)=some (slice d1 e1 f1)∧
 ag d1 (fun g1=>
 (0:Int)≤z∧z< (e1:Int)∧
 ∃h1,c1.cell? (g1.add (z.toNat*1))=some (int .u32 h1)∧
 ∃i1 j1 k1,c1.cell? ((nb h).add 0)=some (slice i1 j1 k1)∧
 ag i1 (fun l1=>
 (0:Int)≤z∧z< (j1:Int)∧
 ∃m1,c1.cell? (l1.add (z.toNat*1))=some (int .u32 m1)∧
 CP 86 #[int .u32 h1,int .u32 m1] c1 (fun n1 o1=>
 ∃p1,n1= .returned (int .i64 p1)∧
 ac (p1 != 0)
 (R (int .i64 p1) o1)
 (Ar .i64 (z-1) (fun q1=>
 y [int .i64 q1,int .i64 a1] o1))))))
 (R (int .i64 0) b1))→y [int .i64 z,int .i64 a1] b1)→
 y [int .i64 x,int .i64 0] q)))
theorem AM (a:OA) (b c:Nat) (d:OA) (f g:Nat) (w:World) (R:RW) (hh:N7 a b c d f g w R):CR 42 #[agg #[slice a b c],agg #[slice d f g]] w R:=
 aD (fn:=Tryz.f42) (by kernel_rfl) (by kernel_rfl) (by kernel_rfl) (by kernel_rfl) (by kernel_rfl) hh
def NB (a:OA) (b c:Nat) (w:World) (R:RW):Prop:=
 ∀d,d=w.alloc (.cells #[slice a b c] 88)→
 ∃f g h,d.cell? ((nb w).add 0)=some (slice f g h)∧
 R (bool ((g:Int)==0)) d
theorem AB (a:OA) (b c:Nat) (w:World) (R:RW) (hh:NB a b c w R):CR 43 #[agg #[slice a b c]] w R:=
 aD (fn:=Tryz.f43) (by kernel_rfl) (by kernel_rfl) (by kernel_rfl) (by kernel_rfl) (by kernel_rfl) hh
def ND (a:OA) (b:Int) (w:World) (R:RW):Prop:=
 ∀c,c=w.alloc (.cells #[slice none 0 0] 88)→
 CP 41 #[pointer a,int .i64 0,int .i64 b] c (fun d f=>
 ∃g h i,d= .returned (agg #[slice g h i])∧
 (slice g h i).oneCell'=true∧(∃u,f.cell? (nb w)=some u)∧f.frozen? (nb w)=false∧
 ∀j,j=(f.setCell (nb w) (slice g h i))→
 ∃k l m,(j.cell? (nb w)=some (slice k l m)∧True)∧
 R (agg #[slice k l m]) j)
theorem Am (a:OA) (b:Int) (w:World) (R:RW) (hh:ND a b w R):CR 45 #[pointer a,int .i64 b] w R:=
 aD (fn:=Tryz.f45) (by kernel_rfl) (by kernel_rfl) (by kernel_rfl) (by kernel_rfl) (by kernel_rfl) hh
def NG (a:OA) (b c:Nat) (w:World) (R:RW):Prop:=
 ∀d,d=w.alloc (.cells #[slice a b c] 88)→
 ∃f g h,(d.cell? (nb w)=some (slice f g h)∧True)∧
 CP 43 #[agg #[slice f g h]] d (fun i j=>
 ∃k,i= .returned (bool k)∧
 ac k
 (R (string ⟨#[48]⟩) j)
 (∀l:KW,(∀(m:OA) (n o:Nat) (p:World),(∃q r s,(p.cell? (nb w)=some (slice q r s)∧True)∧
 CP 43 #[agg #[slice q r s]] p (fun t x=>
 ∃y,t= .returned (bool y)∧
 ac (!y)
 (∃z a1 b1,(x.cell? (nb w)=some (slice z a1 b1)∧True)∧
 CP 87 #[agg #[slice z a1 b1],int .u32 1000000000] x (fun c1 d1=>
 ∃e1 f1 g1 h1,c1= .returned (tuple #[agg #[slice e1 f1 g1],int .u32 h1])∧
 ∀i1,i1=d1.alloc (.cells #[slice none 0 0] 88)→
 (slice e1 f1 g1).oneCell'=true∧(∃u,i1.cell? (nb d1)=some u)∧i1.frozen? (nb d1)=false∧
 ∀j1,j1=(i1.setCell (nb d1) (slice e1 f1 g1))→
 ∀k1:KW,(∀(l1 m1:Int) (n1:OA) (o1 p1:Nat) (q1:World),(ac (decide (l1<9))
 (ac (decide (m1>0))
 ((10:Int)≠0∧
 Ar .u32 ((48:Int)+(Int.tmod m1 10)) (fun r1=>
 ∀s1,s1=q1.alloc (.cells #[int .u8 (IntKind.wrap .u8 r1)] 5)→
 ∃t1 u1 v1 x1,(Builtin.append_ #[97,97] 97 #[slice n1 o1 p1,slice (some (nb q1)) 1 1]).run Tryz.prog s1= .ok (slice t1 u1 v1) x1∧
 (10:Int)≠0∧
 Ar .i64 (l1+1) (fun y1=>
 k1 [int .i64 y1,int .u32 (IntKind.wrap .u32 (Int.tdiv m1 10)),slice t1 u1 v1] x1)))
 (∃z1 a2 b2,(q1.cell? (nb d1)=some (slice z1 a2 b2)∧True)∧
 CP 43 #[agg #[slice z1 a2 b2]] q1 (fun c2 d2=>
 ∃e2,c2= .returned (bool e2)∧
 ac (!e2)
 ((10:Int)≠0∧
 Ar .u32 ((48:Int)+(Int.tmod m1 10)) (fun f2=>
 ∀g2,g2=d2.alloc (.cells #[int .u8 (IntKind.wrap .u8 f2)] 5)→
 ∃h2 i2 j2 k2,(Builtin.append_ #[97,97] 97 #[slice n1 o1 p1,slice (some (nb d2)) 1 1]).run Tryz.prog g2= .ok (slice h2 i2 j2) k2∧
 (10:Int)≠0∧
 Ar .i64 (l1+1) (fun l2=>
 k1 [int .i64 l2,int .u32 (IntKind.wrap .u32 (Int.tdiv m1 10)),slice h2 i2 j2] k2)))
 (∃m2 n2 o2,(d2.cell? (nb d1)=some (slice m2 n2 o2)∧True)∧
 (slice m2 n2 o2).oneCell'=true∧(∃u,d2.cell? (nb w)=some u)∧d2.frozen? (nb w)=false∧
 ∀p2,p2=(d2.setCell (nb w) (slice m2 n2 o2))→
 l [slice n1 o1 p1] p2))))
 (∃q2 r2 s2,(q1.cell? (nb d1)=some (slice q2 r2 s2)∧True)∧
 (slice q2 r2 s2).oneCell'=true∧(∃u,q1.cell? (nb w)=some u)∧q1.frozen? (nb w)=false∧
 ∀t2,t2=(q1.setCell (nb w) (slice q2 r2 s2))→
 l [slice n1 o1 p1] t2))→k1 [int .i64 l1,int .u32 m1,slice n1 o1 p1] q1)→
 k1 [int .i64 0,int .u32 h1,slice m n o] j1))
 (CP 88 #[slice m n o] x (fun u2 v2=>
 u2= .returned (tuple #[])∧
 ∃x2 y2,(convert 97 9 (slice m n o)).run Tryz.prog v2= .ok (string x2) y2∧
 R (string x2) y2))))→l [slice m n o] p)→
 l [slice none 0 0] j))
theorem zI (a:OA) (b c:Nat) (w:World) (R:RW) (hh:NG a b c w R):CR 46 #[agg #[slice a b c]] w R:=
 aD (fn:=Tryz.f46) (by kernel_rfl) (by kernel_rfl) (by kernel_rfl) (by kernel_rfl) (by kernel_rfl) hh
def NM (a b:OA) (c d:Nat) (w:World) (R:RW):Prop:=
 ∀f,f=w.alloc (.cells #[slice none 0 0] 88)→
 ac (Option.isNone a)
 ((slice none 0 0).oneCell'=true∧(∃u,f.cell? (nb w)=some u)∧f.frozen? (nb w)=false∧
 ∀g,g=(f.setCell (nb w) (slice none 0 0))→
 ∃h i j,(g.cell? (nb w)=some (slice h i j)∧True)∧
 R (tuple #[agg #[slice h i j],int .i64 1]) g)
 (ag a (fun k=>
 ∃l,f.cell? (k.add 2)=some (int .i64 l)∧
 ac (decide ((c:Int)>l))
 ((slice none 0 0).oneCell'=true∧(∃u,f.cell? (nb w)=some u)∧f.frozen? (nb w)=false∧
 ∀m,m=(f.setCell (nb w) (slice none 0 0))→
 ∃n o p,(m.cell? (nb w)=some (slice n o p)∧True)∧
 R (tuple #[agg #[slice n o p],int .i64 3]) m)
 (ag a (fun q=>
 ∃r,f.cell? (q.add 0)=some (pointer r)∧
 CP 98 #[pointer r,slice b c d] f (fun s t=>
 ∃x y,s= .returned (tuple #[int .i64 x,bool y])∧
 ac (!y)
 ((slice none 0 0).oneCell'=true∧(∃u,t.cell? (nb w)=some u)∧t.frozen? (nb w)=false∧
 ∀z,z=(t.setCell (nb w) (slice none 0 0))→
 ∃a1 b1 c1,(z.cell? (nb w)=some (slice a1 b1 c1)∧True)∧
 R (tuple #[agg #[slice a1 b1 c1],int .i64 4]) z)
 (ag a (fun d1=>
 ∃e1,t.cell? (d1.add 0)=some (pointer e1)∧
 CP 44 #[pointer e1,int .i64 x] t (fun f1 g1=>
 ∃h1,f1= .returned (bool h1)∧
 ac (!h1)
 ((slice none 0 0).oneCell'=true∧(∃u,g1.cell? (nb w)=some u)∧g1.frozen? (nb w)=false∧
 ∀i1,i1=(g1.setCell (nb w) (slice none 0 0))→
 ∃j1 k1 l1,(i1.cell? (nb w)=some (slice j1 k1 l1)∧True)∧
 R (tuple #[agg #[slice j1 k1 l1],int .i64 8]) i1)
 (∀m1,m1=g1.alloc (.cells #[slice none 0 0] 88)→
 ∀n1,n1=m1.alloc (.cells #[int .i64 0] 3)→
 (int .i64 0).oneCell'=true∧(∃u,n1.cell? (nb m1)=some u)∧n1.frozen? (nb m1)=false∧
 ∀o1,o1=(n1.setCell (nb m1) (int .i64 0))→
 ∀p1:KW,(∀(q1:Int) (r1:World),(ac (decide (q1< (c:Int)))
 (ag b (fun s1=>
 (0:Int)≤q1∧q1< (c:Int)∧
 ∃t1,r1.cell? (s1.add (q1.toNat*1))=some (int .i64 t1)∧
 ∀u1,u1=r1.alloc (.cells #[int .i64 0] 3)→
 (int .i64 t1).oneCell'=true∧(∃u,u1.cell? (nb r1)=some u)∧u1.frozen? (nb r1)=false∧
 ∀v1,v1=(u1.setCell (nb r1) (int .i64 t1))→
 ∃x1,v1.cell? (nb m1)=some (int .i64 x1)∧
 Ar .i64 ((c:Int)-1) (fun y1=>
 Ar .i64 (y1-q1) (fun z1=>
 CP 95 #[pointer a,int .i64 x1,int .i64 z1,func (.func 99) #[] #[pointer (some (nb r1)),pointer (some (nb m1)),pointer (some (nb g1))]] v1 (fun a2 b2=>
 ∃c2,a2= .returned (bool c2)∧
 Ar .i64 (q1+1) (fun d2=>
 p1 [int .i64 d2] b2))))))
 (∃e2 f2 g2,(r1.cell? (nb g1)=some (slice e2 f2 g2)∧True)∧
 (slice e2 f2 g2).oneCell'=true∧(∃u,r1.cell? (nb w)=some u)∧r1.frozen? (nb w)=false∧
 ∀h2,h2=(r1.setCell (nb w) (slice e2 f2 g2))→
 ∃i2 j2 k2,(h2.cell? (nb w)=some (slice i2 j2 k2)∧True)∧
 R (tuple #[agg #[slice i2 j2 k2],int .i64 0]) h2))→p1 [int .i64 q1] r1)→
 p1 [int .i64 0] o1)))))))))
theorem zP (a b:OA) (c d:Nat) (w:World) (R:RW) (hh:NM a b c d w R):CR 51 #[pointer a,slice b c d] w R:=
 aD (fn:=Tryz.f51) (by kernel_rfl) (by kernel_rfl) (by kernel_rfl) (by kernel_rfl) (by kernel_rfl) hh
def Od (a:Int) (w:World) (R:RW):Prop:=
 ∀b,b=w.alloc (.cells #[slice none 0 0] 88)→
 (0:Int)≤32∧
 ∀c,c=b.alloc (.cells #[int .u32 (IntKind.wrap .u32 a),int .u32 (IntKind.wrap .u32 (Int.fdiv a (2^(min (32:Int).toNat (IntKind.bits .u64)))))] 153)→
 CP 93 #[slice (some (nb b)) 2 2] c (fun d f=>
 ∃g h i,d= .returned (agg #[slice g h i])∧
 (slice g h i).oneCell'=true∧(∃u,f.cell? (nb w)=some u)∧f.frozen? (nb w)=false∧
 ∀j,j=(f.setCell (nb w) (slice g h i))→
 ∃k l m,(j.cell? (nb w)=some (slice k l m)∧True)∧
 R (agg #[slice k l m]) j)
theorem Aj (a:Int) (w:World) (R:RW) (hh:Od a w R):CR 53 #[int .u64 a] w R:=
 aD (fn:=Tryz.f53) (by kernel_rfl) (by kernel_rfl) (by kernel_rfl) (by kernel_rfl) (by kernel_rfl) hh
def N5 (a b:OA) (c:Int) (w:World) (R:RW):Prop:=
 ac (Option.isNone a)
 (R (tuple #[pointer none,int .i64 1]) w)
 (ac (Option.isNone b)
 (R (tuple #[pointer none,int .i64 1]) w)
 (ac (decide (c<0))
 (R (tuple #[pointer none,int .i64 1]) w)
 (CP 37 #[pointer a] w (fun d f=>
 ∃g,d= .returned (int .i64 g)∧
 g≠0∧
 ac (decide (c>(IntKind.wrap .i64 (Int.tdiv 20000 g))))
 (R (tuple #[pointer none,int .i64 5]) f)
 (∀h,h=f.alloc (.cells #[pointer a,pointer b,int .i64 c,int .u32 0,int .i32 0,int .u32 0,slice none 0 0] 172)→
 R (tuple #[pointer (some (nb f)),int .i64 0]) h)))))
theorem zM (a b:OA) (c:Int) (w:World) (R:RW) (hh:N5 a b c w R):CR 55 #[pointer a,pointer b,int .i64 c] w R:=
 aD (fn:=Tryz.f55) (by kernel_rfl) (by kernel_rfl) (by kernel_rfl) (by kernel_rfl) (by kernel_rfl) hh
def Oy (a:OA) (b c:Nat) (d:OA) (f g:Nat) (w:World) (R:RW):Prop:=
 ∀h,h=w.alloc (.cells #[slice a b c] 88)→
 ∀i,i=h.alloc (.cells #[slice d f g] 88)→
 ∀j,j=i.alloc (.cells #[slice none 0 0] 88)→
 ∃k l m,j.cell? ((nb w).add 0)=some (slice k l m)∧
 ∃n o p,j.cell? ((nb h).add 0)=some (slice n o p)∧
 ∃q r,(Builtin.max_ #[3,3] 3 #[int .i64 (l:Int),int .i64 (o:Int)]).run Tryz.prog j= .ok (int .i64 q) r∧
 Ar .i64 (q+1) (fun s=>
 ∃t x y z,(Instr.makeSlice 86 (int .i64 0) (int .i64 s)).run Tryz.prog r= .ok (slice t x y) z∧
 ∀a1:KW,(∀(b1 c1:Int) (d1:OA) (e1 f1:Nat) (g1:World),(ac (decide (b1<q))
 (∀h1,h1=g1.drew→
 ∃i1 j1 k1,(h1.cell? (nb w)=some (slice i1 j1 k1)∧True)∧
 ∃l1 m1 n1,(h1.cell? (nb h)=some (slice l1 m1 n1)∧True)∧
 CP 153 #[agg #[slice i1 j1 k1],int .i64 b1] h1 (fun o1 p1=>
 ∃q1,o1= .returned (int .u32 q1)∧
 (p1.cell? (nb h)=some (slice l1 m1 n1)∧True)∧
 CP 153 #[agg #[slice l1 m1 n1],int .i64 b1] p1 (fun r1 s1=>
 ∃t1,r1= .returned (int .u32 t1)∧
 Ar .u64 ((IntKind.wrap .u64 q1:Int)+(IntKind.wrap .u64 t1)) (fun u1=>
 Ar .u64 (u1+c1) (fun v1=>
 ∀x1,x1=s1.alloc (.cells #[int .u32 (IntKind.wrap .u32 v1)] 153)→
 ∃y1 z1 a2 b2,(Builtin.append_ #[86,86] 86 #[slice d1 e1 f1,slice (some (nb s1)) 1 1]).run Tryz.prog x1= .ok (slice y1 z1 a2) b2∧
 (0:Int)≤32∧
 Ar .i64 (b1+1) (fun c2=>
 a1 [int .i64 c2,int .u64 (Int.fdiv v1 (2^(min (32:Int).toNat (IntKind.bits .u64)))),slice y1 z1 a2] b2))))))
 (∀d2,d2=g1.alloc (.cells #[int .u32 (IntKind.wrap .u32 c1)] 153)→
 ∃e2 f2 g2 h2,(Builtin.append_ #[86,86] 86 #[slice d1 e1 f1,slice (some (nb g1)) 1 1]).run Tryz.prog d2= .ok (slice e2 f2 g2) h2∧
 CP 93 #[slice e2 f2 g2] h2 (fun i2 j2=>
 ∃k2 l2 m2,i2= .returned (agg #[slice k2 l2 m2])∧
 (slice k2 l2 m2).oneCell'=true∧(∃u,j2.cell? (nb i)=some u)∧j2.frozen? (nb i)=false∧
 ∀n2,n2=(j2.setCell (nb i) (slice k2 l2 m2))→
 ∃o2 p2 q2,(n2.cell? (nb i)=some (slice o2 p2 q2)∧True)∧
 R (agg #[slice o2 p2 q2]) n2)))→a1 [int .i64 b1,int .u64 c1,slice d1 e1 f1] g1)→
 a1 [int .i64 0,int .u64 0,slice t x y] z)
theorem Ba (a:OA) (b c:Nat) (d:OA) (f g:Nat) (w:World) (R:RW) (hh:Oy a b c d f g w R):CR 82 #[agg #[slice a b c],agg #[slice d f g]] w R:=
 aD (fn:=Tryz.f82) (by kernel_rfl) (by kernel_rfl) (by kernel_rfl) (by kernel_rfl) (by kernel_rfl) hh
def NH (a:OA) (w:World) (R:RW):Prop:=
 ag a (fun b=>
 ∃c,w.cell? (b.add 0)=some (pointer c)∧
 CP 37 #[pointer c] w (fun d f=>
 ∃g,d= .returned (int .i64 g)∧
 ∃h i j k,(Instr.makeSlice 166 (int .i64 g) (int .i64 g)).run Tryz.prog f= .ok (slice h i j) k∧
 ∃l m n o,(Instr.makeSlice 252 (int .i64 g) (int .i64 g)).run Tryz.prog k= .ok (slice l m n) o∧
 ∀p:KW,(∀(q:Int) (r:World),(ac (decide (q<g))
 (∀s:KW,(∀t:World,(Ar .i64 (q+1) (fun x=>
 p [int .i64 x] t))→s [] t)→
 CP 156 #[pointer a,int .i64 q] r (fun y z=>
 ∃a1,y= .returned (map a1)∧
 ag l (fun b1=>
 (0:Int)≤q∧q< (m:Int)∧
 (map a1).oneCell'=true∧(∃u,z.cell? (b1.add (q.toNat*1))=some u)∧z.frozen? (b1.add (q.toNat*1))=false∧
 ∀c1,c1=(z.setCell (b1.add (q.toNat*1)) (map a1))→
 ag a (fun d1=>
 ∃e1,c1.cell? (d1.add 0)=some (pointer e1)∧
 CP 44 #[pointer e1,int .i64 q] c1 (fun f1 g1=>
 ∃h1,f1= .returned (bool h1)∧
 ac h1
 (CP 53 #[int .u64 1] g1 (fun i1 j1=>
 ∃k1 l1 m1,i1= .returned (agg #[slice k1 l1 m1])∧
 ag h (fun n1=>
 (0:Int)≤q∧q< (i:Int)∧
 (slice k1 l1 m1).oneCell'=true∧(∃u,j1.cell? (n1.add (q.toNat*1))=some u)∧j1.frozen? (n1.add (q.toNat*1))=false∧
 ∀o1,o1=(j1.setCell (n1.add (q.toNat*1)) (slice k1 l1 m1))→
 s [] o1)))
 (s [] g1))))))
 (ag a (fun p1=>
 ∃q1 r1 s1,r.cell? ((p1.add 3).add 3)=some (slice q1 r1 s1)∧
 ∀t1,t1=r.alloc (.cells #[slice h i j] 166)→
 ∃u1 v1 x1 y1,(Builtin.append_ #[168,168] 168 #[slice q1 r1 s1,slice (some (nb r)) 1 1]).run Tryz.prog t1= .ok (slice u1 v1 x1) y1∧
 ag a (fun z1=>
 (slice u1 v1 x1).oneCell'=true∧(∃u,y1.cell? ((z1.add 3).add 3)=some u)∧y1.frozen? ((z1.add 3).add 3)=false∧
 ∀a2,a2=(y1.setCell ((z1.add 3).add 3) (slice u1 v1 x1))→
 ∀b2:KW,(∀(c2:Int) (d2:World),(ag a (fun e2=>
 ∃f2,d2.cell? (e2.add 2)=some (int .i64 f2)∧
 ac (decide (c2≤f2))
 (∃g2 h2 i2 j2,(Instr.makeSlice 166 (int .i64 g) (int .i64 g)).run Tryz.prog d2= .ok (slice g2 h2 i2) j2∧
 ∀k2:KW,(∀(l2:Int) (m2:World),(ac (decide (l2<g))
 (ag l (fun n2=>
 (0:Int)≤l2∧l2< (m:Int)∧
 ∃o2,m2.cell? (n2.add (l2.toNat*1))=some (map o2)∧
 ∃p2 q2,(Instr.range 253 (map o2)).run Tryz.prog m2= .ok (pointer p2) q2∧
 ∀r2:KW,(∀s2:World,((∃t2 u2,(Instr.next (pointer p2) false 0).run Tryz.prog s2= .ok (tuple #[bool t2]) u2∧
 ∃v2,bool t2=bool v2∧
 ac v2
 (∃x2 y2 z2,(Instr.entry (pointer p2)).run Tryz.prog u2= .ok (tuple #[x2,y2]) z2∧
 ∃a3,x2=int .i64 a3∧
 ∃b3,y2=int .u32 b3∧
 ∀c3,c3=z2.drew→
 ag g2 (fun d3=>
 (0:Int)≤l2∧l2< (h2:Int)∧
 ∃e3 f3 g3,(c3.cell? (d3.add (l2.toNat*1))=some (slice e3 f3 g3)∧True)∧
 ag a (fun h3=>
 ∃i3 j3 k3,c3.cell? ((h3.add 3).add 3)=some (slice i3 j3 k3)∧
 Ar .i64 (c2-1) (fun l3=>
 ag i3 (fun m3=>
 (0:Int)≤l3∧l3< (j3:Int)∧
 ∃n3 o3 p3,c3.cell? (m3.add (l3.toNat*1))=some (slice n3 o3 p3)∧
 ag n3 (fun q3=>
 (0:Int)≤a3∧a3< (o3:Int)∧
 ∃r3 s3 t3,(c3.cell? (q3.add (a3.toNat*1))=some (slice r3 s3 t3)∧True)∧
 CP 157 #[agg #[slice r3 s3 t3],int .u32 b3] c3 (fun u3 v3=>
 ∃x3 y3 z3,u3= .returned (agg #[slice x3 y3 z3])∧
 (v3.cell? (d3.add (l2.toNat*1))=some (slice e3 f3 g3)∧True)∧
 ∀a4,a4=v3.alloc (.cells #[slice x3 y3 z3] 88)→
 (a4.cell? (d3.add (l2.toNat*1))=some (slice e3 f3 g3)∧True)∧
 CP 40 #[agg #[slice e3 f3 g3],slice (some (nb v3)) 1 1] a4 (fun b4 c4=>
 ∃d4 e4 f4,b4= .returned (agg #[slice d4 e4 f4])∧
 ag g2 (fun g4=>
 (0:Int)≤l2∧l2< (h2:Int)∧
 (slice d4 e4 f4).oneCell'=true∧(∃u,c4.cell? (g4.add (l2.toNat*1))=some u)∧c4.frozen? (g4.add (l2.toNat*1))=false∧
 ∀h4,h4=(c4.setCell (g4.add (l2.toNat*1)) (slice d4 e4 f4))→
 r2 [] h4)))))))))
 (Ar .i64 (l2+1) (fun i4=>
 k2 [int .i64 i4] u2)))∨
 (∃j4 k4 l4 m4,(Instr.next (pointer p2) false 0).run Tryz.prog s2= .ok (tuple #[bool j4,k4,l4]) m4∧
 ∃n4,bool j4=bool n4∧
 ac n4
 (∃o4 p4 q4,(Instr.entry (pointer p2)).run Tryz.prog m4= .ok (tuple #[o4,p4]) q4∧
 ∃r4,o4=int .i64 r4∧
 ∃s4,p4=int .u32 s4∧
 ∀t4,t4=q4.drew→
 ag g2 (fun u4=>
 (0:Int)≤l2∧l2< (h2:Int)∧
 ∃v4 x4 y4,(t4.cell? (u4.add (l2.toNat*1))=some (slice v4 x4 y4)∧True)∧
 ag a (fun z4=>
 ∃a5 b5 c5,t4.cell? ((z4.add 3).add 3)=some (slice a5 b5 c5)∧
 Ar .i64 (c2-1) (fun d5=>
 ag a5 (fun e5=>
 (0:Int)≤d5∧d5< (b5:Int)∧
 ∃f5 g5 h5,t4.cell? (e5.add (d5.toNat*1))=some (slice f5 g5 h5)∧
 ag f5 (fun i5=>
 (0:Int)≤r4∧r4< (g5:Int)∧
 ∃j5 k5 l5,(t4.cell? (i5.add (r4.toNat*1))=some (slice j5 k5 l5)∧True)∧
 CP 157 #[agg #[slice j5 k5 l5],int .u32 s4] t4 (fun m5 n5=>
 ∃o5 p5 q5,m5= .returned (agg #[slice o5 p5 q5])∧
 (n5.cell? (u4.add (l2.toNat*1))=some (slice v4 x4 y4)∧True)∧
 ∀r5,r5=n5.alloc (.cells #[slice o5 p5 q5] 88)→
 (r5.cell? (u4.add (l2.toNat*1))=some (slice v4 x4 y4)∧True)∧
 CP 40 #[agg #[slice v4 x4 y4],slice (some (nb n5)) 1 1] r5 (fun s5 t5=>
 ∃u5 v5 x5,s5= .returned (agg #[slice u5 v5 x5])∧
 ag g2 (fun y5=>
 (0:Int)≤l2∧l2< (h2:Int)∧
 (slice u5 v5 x5).oneCell'=true∧(∃u,t5.cell? (y5.add (l2.toNat*1))=some u)∧t5.frozen? (y5.add (l2.toNat*1))=false∧
 ∀z5,z5=(t5.setCell (y5.add (l2.toNat*1)) (slice u5 v5 x5))→
 r2 [] z5)))))))))
 (Ar .i64 (l2+1) (fun a6=>
 k2 [int .i64 a6] m4))))→r2 [] s2)→
 r2 [] q2))
 (ag a (fun b6=>
 ∃c6 d6 e6,m2.cell? ((b6.add 3).add 3)=some (slice c6 d6 e6)∧
 ∀f6,f6=m2.alloc (.cells #[slice g2 h2 i2] 166)→
 ∃g6 h6 i6 j6,(Builtin.append_ #[168,168] 168 #[slice c6 d6 e6,slice (some (nb m2)) 1 1]).run Tryz.prog f6= .ok (slice g6 h6 i6) j6∧
 ag a (fun k6=>
 (slice g6 h6 i6).oneCell'=true∧(∃u,j6.cell? ((k6.add 3).add 3)=some u)∧j6.frozen? ((k6.add 3).add 3)=false∧
 ∀l6,l6=(j6.setCell ((k6.add 3).add 3) (slice g6 h6 i6))→
 Ar .i64 (c2+1) (fun m6=>
 b2 [int .i64 m6] l6)))))→k2 [int .i64 l2] m2)→
 k2 [int .i64 0] j2)
 (R (tuple #[]) d2)))→b2 [int .i64 c2] d2)→
 b2 [int .i64 1] a2))))→p [int .i64 q] r)→
 p [int .i64 0] o))
theorem BM (a:OA) (w:World) (R:RW) (hh:NH a w R):CR 84 #[pointer a] w R:=
 m0 JS (fn:=Tryz.f84) (by kernel_rfl) (body:=tO Tryz.f84) (by kernel_rfl) (by kernel_rfl) (by kernel_rfl) (Eq.mp (by kernel_rfl) hh)
def NL (a b:Int) (w:World) (R:RW):Prop:=
 CP 158 #[int .i64 a] w (fun c d=>
 ∃f,c= .returned (bool f)∧
 CP 158 #[int .i64 b] d (fun g h=>
 ∃i,g= .returned (bool i)∧
 ac f
 (ac i
 (R (int .i64 0) h)
 (R (int .i64 (-1)) h))
 (ac i
 (R (int .i64 1) h)
 (ac (decide (a<b))
 (R (int .i64 (-1)) h)
 (ac (decide (a>b))
 (R (int .i64 1) h)
 (R (int .i64 0) h))))))
theorem AG (a b:Int) (w:World) (R:RW) (hh:NL a b w R):CR 85 #[int .i64 a,int .i64 b] w R:=
 aD (fn:=Tryz.f85) (by kernel_rfl) (by kernel_rfl) (by kernel_rfl) (by kernel_rfl) (by kernel_rfl) hh
def Nz (a b:Int) (w:World) (R:RW):Prop:=
 CP 159 #[int .u32 a] w (fun c d=>
 ∃f,c= .returned (bool f)∧
 CP 159 #[int .u32 b] d (fun g h=>
 ∃i,g= .returned (bool i)∧
 ac f
 (ac i
 (R (int .i64 0) h)
 (R (int .i64 (-1)) h))
 (ac i
 (R (int .i64 1) h)
 (ac (decide (a<b))
 (R (int .i64 (-1)) h)
 (ac (decide (a>b))
 (R (int .i64 1) h)
 (R (int .i64 0) h))))))
theorem A_ (a b:Int) (w:World) (R:RW) (hh:Nz a b w R):CR 86 #[int .u32 a,int .u32 b] w R:=
 aD (fn:=Tryz.f86) (by kernel_rfl) (by kernel_rfl) (by kernel_rfl) (by kernel_rfl) (by kernel_rfl) hh
def On (a:OA) (b c:Nat) (d:Int) (w:World) (R:RW):Prop:=
 ∀f,f=w.alloc (.cells #[slice a b c] 88)→
 ∀g,g=f.alloc (.cells #[slice none 0 0] 88)→
 ac (d==0)
 ((slice none 0 0).oneCell'=true∧(∃u,g.cell? (nb f)=some u)∧g.frozen? (nb f)=false∧
 ∀h,h=(g.setCell (nb f) (slice none 0 0))→
 ∃i j k,(h.cell? (nb f)=some (slice i j k)∧True)∧
 R (tuple #[agg #[slice i j k],int .u32 0]) h)
 (∃l m n,g.cell? ((nb w).add 0)=some (slice l m n)∧
 ∃o p q r,(Instr.makeSlice 86 (int .i64 (m:Int)) (int .i64 (m:Int))).run Tryz.prog g= .ok (slice o p q) r∧
 ∃s t x,r.cell? ((nb w).add 0)=some (slice s t x)∧
 Ar .i64 ((t:Int)-1) (fun y=>
 ∀z:KW,(∀(a1 b1:Int) (c1:World),(ac (decide (a1≥0))
 ((0:Int)≤32∧
 ∃d1 e1 f1,c1.cell? ((nb w).add 0)=some (slice d1 e1 f1)∧
 ag d1 (fun g1=>
 (0:Int)≤a1∧a1< (e1:Int)∧
 ∃h1,c1.cell? (g1.add (a1.toNat*1))=some (int .u32 h1)∧
 (IntKind.wrap .u64 d:Int)≠0∧
 ag o (fun i1=>
 (0:Int)≤a1∧a1< (p:Int)∧
 (int .u32 (IntKind.wrap .u32 (IntKind.wrap .u64 (Int.tdiv (IntKind.wrap .u64 ((BitVec.ofInt (IntKind.bits .u64) (IntKind.wrap .u64 (b1*2^(min (32:Int).toNat (IntKind.bits .u64))))|||BitVec.ofInt (IntKind.bits .u64) (IntKind.wrap .u64 h1)).toNat:Int)) (IntKind.wrap .u64 d))))).oneCell'=true∧(∃u,c1.cell? (i1.add (a1.toNat*1))=some u)∧c1.frozen? (i1.add (a1.toNat*1))=false∧
 ∀j1,j1=(c1.setCell (i1.add (a1.toNat*1)) (int .u32 (IntKind.wrap .u32 (IntKind.wrap .u64 (Int.tdiv (IntKind.wrap .u64 ((BitVec.ofInt (IntKind.bits .u64) (IntKind.wrap .u64 (b1*2^(min (32:Int).toNat (IntKind.bits .u64))))|||BitVec.ofInt (IntKind.bits .u64) (IntKind.wrap .u64 h1)).toNat:Int)) (IntKind.wrap .u64 d))))))→
 (IntKind.wrap .u64 d:Int)≠0∧
 Ar .i64 (a1-1) (fun k1=>
 z [int .i64 k1,int .u64 (Int.tmod (IntKind.wrap .u64 ((BitVec.ofInt (IntKind.bits .u64) (IntKind.wrap .u64 (b1*2^(min (32:Int).toNat (IntKind.bits .u64))))|||BitVec.ofInt (IntKind.bits .u64) (IntKind.wrap .u64 h1)).toNat:Int)) (IntKind.wrap .u64 d))] j1))))
 (CP 93 #[slice o p q] c1 (fun l1 m1=>
 ∃n1 o1 p1,l1= .returned (agg #[slice n1 o1 p1])∧
 (slice n1 o1 p1).oneCell'=true∧(∃u,m1.cell? (nb f)=some u)∧m1.frozen? (nb f)=false∧
 ∀q1,q1=(m1.setCell (nb f) (slice n1 o1 p1))→
 ∃r1 s1 t1,(q1.cell? (nb f)=some (slice r1 s1 t1)∧True)∧
 R (tuple #[agg #[slice r1 s1 t1],int .u32 (IntKind.wrap .u32 b1)]) q1)))→z [int .i64 a1,int .u64 b1] c1)→
 z [int .i64 y,int .u64 0] r))
theorem AQ (a:OA) (b c:Nat) (d:Int) (w:World) (R:RW) (hh:On a b c d w R):CR 87 #[agg #[slice a b c],int .u32 d] w R:=
 aD (fn:=Tryz.f87) (by kernel_rfl) (by kernel_rfl) (by kernel_rfl) (by kernel_rfl) (by kernel_rfl) hh
def Oz (a:OA) (b c:Nat) (w:World) (R:RW):Prop:=
 Ar .i64 ((b:Int)-1) (fun d=>
 ∀f:KW,(∀(g h:Int) (i:World),(ac (decide (h<g))
 (∀j,j=i.drew→
 ag a (fun k=>
 (0:Int)≤g∧g< (b:Int)∧
 ∃l,j.cell? (k.add (g.toNat*1))=some (int .u8 l)∧
 ag a (fun m=>
 (0:Int)≤h∧h< (b:Int)∧
 ∃n,j.cell? (m.add (h.toNat*1))=some (int .u8 n)∧
 ag a (fun o=>
 (0:Int)≤h∧h< (b:Int)∧
 (int .u8 l).oneCell'=true∧(∃u,j.cell? (o.add (h.toNat*1))=some u)∧j.frozen? (o.add (h.toNat*1))=false∧
 ∀p,p=(j.setCell (o.add (h.toNat*1)) (int .u8 l))→
 ag a (fun q=>
 (0:Int)≤g∧g< (b:Int)∧
 (int .u8 n).oneCell'=true∧(∃u,p.cell? (q.add (g.toNat*1))=some u)∧p.frozen? (q.add (g.toNat*1))=false∧
 ∀r,r=(p.setCell (q.add (g.toNat*1)) (int .u8 n))→
 Ar .i64 (h+1) (fun s=>
 Ar .i64 (g-1) (fun t=>
 f [int .i64 t,int .i64 s] r)))))))
 (R (tuple #[]) i))→f [int .i64 g,int .i64 h] i)→
 f [int .i64 d,int .i64 0] w)
theorem BQ (a:OA) (b c:Nat) (w:World) (R:RW) (hh:Oz a b c w R):CR 88 #[slice a b c] w R:=
 aD (fn:=Tryz.f88) (by kernel_rfl) (by kernel_rfl) (by kernel_rfl) (by kernel_rfl) (by kernel_rfl) hh
def NU (a:OA) (b c:Nat) (w:World) (R:RW):Prop:=
 ∀d,d=w.alloc (.cells #[slice none 0 0] 88)→
 ∀f:KW,(∀(g:Int) (h:World),(ac (decide (g>0))
 (Ar .i64 (g-1) (fun i=>
 ag a (fun j=>
 (0:Int)≤i∧i< (b:Int)∧
 ∃k,h.cell? (j.add (i.toNat*1))=some (int .u32 k)∧
 ac (k==0)
 (Ar .i64 (g-1) (fun l=>
 f [int .i64 l] h))
 ((0:Int)≤(0:Int)∧(0:Int)≤g∧g≤g∧g≤(c:Int)∧True∧
 (slice (bG a (0:Int).toNat g.toNat 1) (g.toNat- (0:Int).toNat) (g.toNat- (0:Int).toNat)).oneCell'=true∧(∃u,h.cell? (nb w)=some u)∧h.frozen? (nb w)=false∧
 ∀m,m=(h.setCell (nb w) (slice (bG a (0:Int).toNat g.toNat 1) (g.toNat- (0:Int).toNat) (g.toNat- (0:Int).toNat)))→
 ∃n o p,(m.cell? (nb w)=some (slice n o p)∧True)∧
 R (agg #[slice n o p]) m))))
 ((0:Int)≤(0:Int)∧(0:Int)≤g∧g≤g∧g≤(c:Int)∧True∧
 (slice (bG a (0:Int).toNat g.toNat 1) (g.toNat- (0:Int).toNat) (g.toNat- (0:Int).toNat)).oneCell'=true∧(∃u,h.cell? (nb w)=some u)∧h.frozen? (nb w)=false∧
 ∀q,q=(h.setCell (nb w) (slice (bG a (0:Int).toNat g.toNat 1) (g.toNat- (0:Int).toNat) (g.toNat- (0:Int).toNat)))→
 ∃r s t,(q.cell? (nb w)=some (slice r s t)∧True)∧
 R (agg #[slice r s t]) q))→f [int .i64 g] h)→
 f [int .i64 (b:Int)] d
theorem BR (a:OA) (b c:Nat) (w:World) (R:RW) (hh:NU a b c w R):CR 93 #[slice a b c] w R:=
 aD (fn:=Tryz.f93) (by kernel_rfl) (by kernel_rfl) (by kernel_rfl) (by kernel_rfl) (by kernel_rfl) hh
def Oa (a:OA) (b c:Int) (d:Value) (w:World) (R:RW):Prop:=
 ag a (fun f=>
 ∃g,w.cell? (f.add 1)=some (pointer g)∧
 CP 19 #[pointer g] w (fun h i=>
 ∃j,h= .returned (int .i64 j)∧
 ∀k:KW,(∀(l:Int) (m:Bool) (n:World),(ac (decide (l<j))
 (CP 161 #[pointer a,int .i64 l] n (fun o p=>
 ∃q,o= .returned (int .i64 q)∧
 ag a (fun r=>
 ∃s,p.cell? (r.add 0)=some (pointer s)∧
 CP 39 #[pointer s,int .i64 b,int .i64 q] p (fun t u=>
 ∃x y,t= .returned (tuple #[int .i64 x,bool y])∧
 ac y
 (ag a (fun z=>
 ∃a1,u.cell? (z.add 0)=some (pointer a1)∧
 CP 44 #[pointer a1,int .i64 x] u (fun b1 c1=>
 ∃d1,b1= .returned (bool d1)∧
 ac d1
 (CP 41 #[pointer a,int .i64 x,int .i64 c] c1 (fun e1 f1=>
 ∃g1 h1 i1,e1= .returned (agg #[slice g1 h1 i1])∧
 bF fY d [int .i64 q,int .i64 x,agg #[slice g1 h1 i1]] f1 (fun j1 k1=>
 ∃l1,j1= .returned (bool l1)∧
 ac l1
 (R (bool true) k1)
 (Ar .i64 (l+1) (fun m1=>
 k [int .i64 m1,bool m] k1)))))
 (Ar .i64 (l+1) (fun n1=>
 k [int .i64 n1,bool m] c1)))))
 (Ar .i64 (l+1) (fun o1=>
 k [int .i64 o1,bool m] u))))))
 (R (bool false) n))→k [int .i64 l,bool m] n)→
 k [int .i64 0,bool false] i))
theorem AA (a:OA) (b c:Int) (d:Value) (w:World) (R:RW) (hh:Oa a b c d w R):CR 95 #[pointer a,int .i64 b,int .i64 c,d] w R:=
 aD (fn:=Tryz.f95) (by kernel_rfl) (by kernel_rfl) (by kernel_rfl) (by kernel_rfl) (by kernel_rfl) hh
def NZ (a b:Int) (c:OA) (d f:Nat) (g h i:OA) (w:World) (R:RW):Prop:=
 ∀j,j=w.alloc (.cells #[slice c d f] 88)→
 ag g (fun k=>
 ∃l,j.cell? k=some (int .i64 l)∧
 ac (a==l)
 (ag h (fun m=>
 (int .i64 b).oneCell'=true∧(∃u,j.cell? m=some u)∧j.frozen? m=false∧
 ∀n,n=(j.setCell m (int .i64 b))→
 R (bool true) n))
 (ag i (fun o=>
 ∃p q r,(j.cell? o=some (slice p q r)∧True)∧
 ∃s t x,(j.cell? (nb w)=some (slice s t x)∧True)∧
 ∀y,y=j.alloc (.cells #[slice s t x] 88)→
 CP 40 #[agg #[slice p q r],slice (some (nb j)) 1 1] y (fun z a1=>
 ∃b1 c1 d1,z= .returned (agg #[slice b1 c1 d1])∧
 ag i (fun e1=>
 (slice b1 c1 d1).oneCell'=true∧(∃u,a1.cell? e1=some u)∧a1.frozen? e1=false∧
 ∀f1,f1=(a1.setCell e1 (slice b1 c1 d1))→
 R (bool false) f1)))))
theorem AY (a b:Int) (c:OA) (d f:Nat) (g h i:OA) (w:World) (R:RW) (hh:NZ a b c d f g h i w R):CR 99 #[int .i64 a,int .i64 b,agg #[slice c d f],pointer g,pointer h,pointer i] w R:=
 aD (fn:=Tryz.f99) (by kernel_rfl) (by kernel_rfl) (by kernel_rfl) (by kernel_rfl) (by kernel_rfl) hh
def KC (a:OA) (b c:Nat) (d:Int) (w:World) (R:RW):Prop:=
 ∀f,f=w.alloc (.cells #[slice a b c] 88)→
 ∃g h i,f.cell? ((nb w).add 0)=some (slice g h i)∧
 ac (decide (d≥(h:Int)))
 (R (int .u32 0) f)
 (∃j k l,f.cell? ((nb w).add 0)=some (slice j k l)∧
 ag j (fun m=>
 (0:Int)≤d∧d< (k:Int)∧
 ∃n,f.cell? (m.add (d.toNat*1))=some (int .u32 n)∧
 R (int .u32 n) f))
theorem xj (a:OA) (b c:Nat) (d:Int) (w:World) (R:RW) (hh:KC a b c d w R):CR 153 #[agg #[slice a b c],int .i64 d] w R:=
 aD (fn:=Tryz.f153) (by kernel_rfl) (by kernel_rfl) (by kernel_rfl) (by kernel_rfl) (by kernel_rfl) hh
def KG (a:OA) (b:Int) (w:World) (R:RW):Prop:=
 ∃c d,(Instr.makeMap 253 none).run Tryz.prog w= .ok (map c) d∧
 ag a (fun f=>
 ∃g,d.cell? (f.add 1)=some (pointer g)∧
 CP 19 #[pointer g] d (fun h i=>
 ∃j,h= .returned (int .i64 j)∧
 ∀k:KW,(∀(l:Int) (m:World),(ac (decide (l<j))
 (∀n:KW,(∀o:World,(Ar .i64 (l+1) (fun p=>
 k [int .i64 p] o))→n [] o)→
 ∀q,q=m.drew→
 ag a (fun r=>
 ∃s,q.cell? (r.add 0)=some (pointer s)∧
 CP 161 #[pointer a,int .i64 l] q (fun t u=>
 ∃x,t= .returned (int .i64 x)∧
 (u.cell? (r.add 0)=some (pointer s)∧True)∧
 CP 39 #[pointer s,int .i64 b,int .i64 x] u (fun y z=>
 ∃a1 b1,y= .returned (tuple #[int .i64 a1,bool b1])∧
 ac b1
 (ag a (fun c1=>
 ∃d1,z.cell? (c1.add 0)=some (pointer d1)∧
 CP 44 #[pointer d1,int .i64 a1] z (fun e1 f1=>
 ∃g1,e1= .returned (bool g1)∧
 ac g1
 (∃h1 i1,(Instr.lookup 253 (map c) (int .i64 a1) false).run Tryz.prog f1= .ok (int .u32 h1) i1∧
 Ar .u32 (h1+1) (fun j1=>
 ∃k1,(Instr.mapUpdate 253 (map c) (int .i64 a1) (int .u32 j1)).run Tryz.prog i1= .ok () k1∧
 n [] k1))
 (n [] f1))))
 (n [] z)))))
 (R (map c) m))→k [int .i64 l] m)→
 k [int .i64 0] i))
theorem zg (a:OA) (b:Int) (w:World) (R:RW) (hh:KG a b w R):CR 156 #[pointer a,int .i64 b] w R:=
 aD (fn:=Tryz.f156) (by kernel_rfl) (by kernel_rfl) (by kernel_rfl) (by kernel_rfl) (by kernel_rfl) hh
def M5 (a:OA) (b c:Nat) (d:Int) (w:World) (R:RW):Prop:=
 ∀f,f=w.alloc (.cells #[slice a b c] 88)→
 ∀g,g=f.alloc (.cells #[slice none 0 0] 88)→
 ∃h i j,g.cell? ((nb w).add 0)=some (slice h i j)∧
 Ar .i64 ((i:Int)+1) (fun k=>
 ∃l m n o,(Instr.makeSlice 86 (int .i64 0) (int .i64 k)).run Tryz.prog g= .ok (slice l m n) o∧
 ∃p q r,o.cell? ((nb w).add 0)=some (slice p q r)∧
 ∀s:KW,(∀(t x:Int) (y:OA) (z a1:Nat) (b1:World),(ac (decide (t< (q:Int)))
 (ag p (fun c1=>
 (0:Int)≤t∧t< (q:Int)∧
 ∃d1,b1.cell? (c1.add (t.toNat*1))=some (int .u32 d1)∧
 Ar .u64 ((IntKind.wrap .u64 d1:Int)*(IntKind.wrap .u64 d)) (fun e1=>
 Ar .u64 (e1+x) (fun f1=>
 ∀g1,g1=b1.alloc (.cells #[int .u32 (IntKind.wrap .u32 f1)] 153)→
 ∃h1 i1 j1 k1,(Builtin.append_ #[86,86] 86 #[slice y z a1,slice (some (nb b1)) 1 1]).run Tryz.prog g1= .ok (slice h1 i1 j1) k1∧
 (0:Int)≤32∧
 Ar .i64 (t+1) (fun l1=>
 s [int .i64 l1,int .u64 (Int.fdiv f1 (2^(min (32:Int).toNat (IntKind.bits .u64)))),slice h1 i1 j1] k1)))))
 (∀m1,m1=b1.alloc (.cells #[int .u32 (IntKind.wrap .u32 x)] 153)→
 ∃n1 o1 p1 q1,(Builtin.append_ #[86,86] 86 #[slice y z a1,slice (some (nb b1)) 1 1]).run Tryz.prog m1= .ok (slice n1 o1 p1) q1∧
 CP 93 #[slice n1 o1 p1] q1 (fun r1 s1=>
 ∃t1 u1 v1,r1= .returned (agg #[slice t1 u1 v1])∧
 (slice t1 u1 v1).oneCell'=true∧(∃u,s1.cell? (nb f)=some u)∧s1.frozen? (nb f)=false∧
 ∀x1,x1=(s1.setCell (nb f) (slice t1 u1 v1))→
 ∃y1 z1 a2,(x1.cell? (nb f)=some (slice y1 z1 a2)∧True)∧
 R (agg #[slice y1 z1 a2]) x1)))→s [int .i64 t,int .u64 x,slice y z a1] b1)→
 s [int .i64 0,int .u64 0,slice l m n] o)
theorem zD (a:OA) (b c:Nat) (d:Int) (w:World) (R:RW) (hh:M5 a b c d w R):CR 157 #[agg #[slice a b c],int .u32 d] w R:=
 aD (fn:=Tryz.f157) (by kernel_rfl) (by kernel_rfl) (by kernel_rfl) (by kernel_rfl) (by kernel_rfl) hh
def Mh (a:Int) (w:World) (R:RW):Prop:=
 R (bool (a != a)) w
theorem zp (a:Int) (w:World) (R:RW) (hh:Mh a w R):CR 159 #[int .u32 a] w R:=
 aD (fn:=Tryz.f159) (by kernel_rfl) (by kernel_rfl) (by kernel_rfl) (by kernel_rfl) (by kernel_rfl) hh
def Lv (a:OA) (b:Int) (w:World) (R:RW):Prop:=
 ag a (fun c=>
 ∃d,w.cell? (c.add 1)=some (pointer d)∧
 CP 38 #[pointer d,int .i64 b] w (fun f g=>
 ∃h i,f= .returned (tuple #[int .i64 h,bool i])∧
 R (int .i64 h) g))
theorem zz (a:OA) (b:Int) (w:World) (R:RW) (hh:Lv a b w R):CR 161 #[pointer a,int .i64 b] w R:=
 aD (fn:=Tryz.f161) (by kernel_rfl) (by kernel_rfl) (by kernel_rfl) (by kernel_rfl) (by kernel_rfl) hh
def eG (b n:Nat):List Int:=if h:2≤b∧n≠0 then((n%b:Nat):Int)::eG b (n/b)else []
termination_by n
decreasing_by exact Nat.div_lt_self (by omega) (by omega)
def di (b:Nat):List Int→Nat
 | []=>0
 |x::r=>x.toNat+b*di b r
def DB (b:Nat) (l:List Int):Prop:=∀x∈l,0≤x∧x< (b:Int)
section
variable {b:Nat}
theorem ew:eG b 0= []:=by unfold eG;simp
theorem kL (hb:2≤b) {n:Nat} (h:n≠0):eG b n=((n%b:Nat):Int)::eG b (n/b):=by
 rw [eG,dif_pos ⟨hb,h⟩]
theorem DT (hb:2≤b) (n:Nat):di b (eG b n)=n:=by
 induction n using Nat.strongRecOn with
 |ind n ih=>
  by_cases h:n=0
  ·subst h;rw [ew];rfl
  ·rw [kL hb h];show(((n%b:Nat):Int)).toNat+b*di b (eG b (n/b))=n;rw [ih _ (Nat.div_lt_self (by omega) (by omega)),Int.toNat_natCast];exact Nat.mod_add_div n b
theorem Ei (hb:2≤b) (n i:Nat):(eG b n)[i]? =if b^i≤n then some ((n/b^i%b:Nat):Int)else none:=by
 induction i generalizing n with
 |zero=>
  by_cases h:n=0
  ·subst h;rw [ew];simp
  ·rw [kL hb h,if_pos (by simp;omega)];simp
 |succ i ih=>
  by_cases h:n=0
  ·subst h;rw [ew,if_neg (by have:=Nat.pow_pos (a:=b) (n:=i+1) (by omega);omega)];simp
  ·rw [kL hb h,List.getElem?_cons_succ,ih];have e:b^i≤n/b↔b^(i+1)≤n:=by
    rw [Nat.le_div_iff_mul_le (by omega),Nat.pow_succ]
   rw [Nat.div_div_eq_div_mul,Nat.mul_comm b, ←Nat.pow_succ];simp only [e]
theorem gr (hb:2≤b) (n i:Nat):i< (eG b n).length↔b^i≤n:=by
 have h:=Ei hb n i;by_cases hi:b^i≤n
 ·rw [if_pos hi]at h;exact iff_of_true (List.getElem?_eq_some_iff.1 h).1 hi
 ·rw [if_neg hi]at h;exact iff_of_false (by have:=List.getElem?_eq_none_iff.1 h;omega) hi
theorem nh (hb:2≤b) {n i:Nat} (h:i< (eG b n).length):(eG b n)[i]=((n/b^i%b:Nat):Int):=by
 have e:=Ei hb n i;rw [if_pos ((gr hb n i).1 h),List.getElem?_eq_getElem h]at e;exact Option.some.inj e
theorem jd (hb:2≤b) {n i:Nat} (h:(eG b n).length≤i):n/b^i=0∧n%b^i=n:=by
 have:n<b^i:=Nat.lt_of_not_le fun hh=>by
  have:=(gr hb n i).2 hh;omega
 exact⟨Nat.div_eq_of_lt this,Nat.mod_eq_of_lt this⟩
theorem Hg (hb:2≤b) {n:Nat}:eG b n= []↔n=0:=by
 constructor
 ·intro h;have:=DT hb n;rw [h]at this;exact this.symm
 ·rintro rfl;exact ew
theorem Co (hb:2≤b):∀l:List Int,DB b l→(∀x,l.getLast?=some x→x≠0)→eG b (di b l)=l
 | [],_,_=>ew
 |x::r,hr,hl=>by
  have hx:=hr x (by simp);have ih:eG b (di b r)=r:=Co hb r (fun y hy=>hr y (by simp [hy])) fun y hy=>by
   cases r with
   |nil=>cases hy
   |cons z r=>exact hl y (by rw [List.getLast?_cons_cons];exact hy)
  have hne:x.toNat+b*di b r≠0:=by
   intro h0;have h1:x=0:=by omega
   have h2:b*di b r=0:=by omega
   have h3:di b r=0:=by
    rcases Nat.mul_eq_zero.1 h2 with h |h
    ·omega
    ·exact h
   rw [h3,ew]at ih;rw [←ih]at hl;exact hl x rfl h1
  show eG b (x.toNat+b*di b r)=x::r;rw [kL hb hne,Nat.add_mul_mod_self_left,Nat.mod_eq_of_lt (by omega),Nat.add_mul_div_left _ _ (by omega),Nat.div_eq_of_lt (by omega),Nat.zero_add,ih];congr 1;omega
theorem fU (l r:List Int):di b (l++r)=di b l+b^l.length*di b r:=by
 induction l with
 |nil=>simp [di]
 |cons x l ih=>
  rw [List.cons_append];show x.toNat+b*di b (l++r)=x.toNat+b*di b l+b^(l.length+1)*di b r;rw [ih,Nat.mul_add,Nat.pow_succ,Nat.mul_comm (b^l.length) b,Nat.mul_assoc];omega
theorem ma (x:Nat):di b [(x:Int)]=x:=by simp [di]
theorem pV:∀l:List Int,(∀x∈l,x=0)→di b l=0
 | [],_=>rfl
 |x::r,h=>by
  show x.toNat+b*di b r=0;rw [h x (by simp),pV r fun y hy=>h y (by simp [hy])];simp
theorem qm (hb:2≤b) {m n:Nat} (h:m≤n):(eG b m).length≤(eG b n).length:=by
 refine Nat.le_of_not_lt fun hlt=>?_;have:=(gr hb m _).1 hlt;have:=(gr hb n (eG b n).length).2 (by omega);omega
theorem Fr (hb:2≤b) {l:List Int} (hr:DB b l) {k:Nat} (hk:k≤l.length) (h0:∀(j:Nat) (hj:j<l.length),k≤j→l[j]=0) (h1:∀(hk:k-1<l.length),0<k→l[k-1]≠0):l.take k=eG b (di b l):=by
 have e:di b l=di b (l.take k):=by
  conv=>lhs;rw [←List.take_append_drop k l]
  rw [fU,pV (l.drop k),Nat.mul_zero,Nat.add_zero];intro x hx;obtain⟨j,hj,rfl⟩:=List.getElem_of_mem hx;rw [List.getElem_drop];rw [List.length_drop]at hj;exact h0 _ (by omega) (by omega)
 rw [e,Co hb]
 ·intro x hx;exact hr x (List.mem_of_mem_take hx)
 ·intro x hx;rw [List.getLast?_eq_getElem?,List.length_take,Nat.min_eq_left hk,List.getElem?_take]at hx;split at hx
  ·rename_i hlt;rw [List.getElem?_eq_getElem (by omega)]at hx;cases hx;exact h1 (by omega) (by omega)
  ·cases hx
theorem mz {l:List Int} (h:DB b l) {x:Nat} (hx:x<b):DB b (l++ [(x:Int)]):=by
 intro y hy;rcases List.mem_append.1 hy with hy |hy
 ·exact h y hy
 ·rw [List.mem_singleton.1 hy];omega
theorem D1 {L:List Int} {i x y c:Nat} (hL:L.length=i) (hI:di b L+c*b^i=x%b^i+y%b^i) {s:Nat} (hs:s=x/b^i%b+y/b^i%b+c):di b (L++ [((s%b:Nat):Int)])+s/b*b^(i+1)=x%b^(i+1)+y%b^(i+1):=by
 rw [fU,ma,hL,Nat.mod_pow_succ,Nat.mod_pow_succ];have e:s=s%b+b*(s/b):=(Nat.mod_add_div s b).symm;have e2:b^i*(s%b)+s/b*b^(i+1)=b^i*s:=by
  conv=>rhs;rw [e]
  rw [Nat.mul_add,Nat.pow_succ,Nat.mul_comm (s/b),Nat.mul_assoc]
 have e3:b^i*s=b^i*(x/b^i%b)+b^i*(y/b^i%b)+c*b^i:=by
  rw [hs,Nat.mul_add,Nat.mul_add,Nat.mul_comm (b^i) c]
 omega
theorem BB {L:List Int} {i x n c:Nat} (hL:L.length=i) (hI:di b L+c*b^i=x%b^i*n) {s:Nat} (hs:s=x/b^i%b*n+c):di b (L++ [((s%b:Nat):Int)])+s/b*b^(i+1)=x%b^(i+1)*n:=by
 rw [fU,ma,hL,Nat.mod_pow_succ];have e:s=s%b+b*(s/b):=(Nat.mod_add_div s b).symm;have e2:b^i*(s%b)+s/b*b^(i+1)=b^i*s:=by
  conv=>rhs;rw [e]
  rw [Nat.mul_add,Nat.pow_succ,Nat.mul_comm (s/b),Nat.mul_assoc]
 have e3:b^i*s=b^i*(x/b^i%b)*n+c*b^i:=by
  rw [hs,Nat.mul_add,Nat.mul_comm (b^i) c,Nat.mul_assoc]
 rw [Nat.add_mul];omega
theorem tK (x i:Nat):x/b^i=b*(x/b^(i+1))+x/b^i%b:=by
 rw [Nat.pow_succ, ←Nat.div_div_eq_div_mul];exact(Nat.div_add_mod (x/b^i) b).symm
theorem CX (hb:2≤b) {x n i rest q:Nat} (hn:0<n) (hI:q*n+rest=x/b^(i+1)) (hr:rest<n) {s:Nat} (hs:s=rest*b+x/b^i%b):(b*q+s/n)*n+s%n=x/b^i∧s%n<n∧s/n<b:=by
 refine⟨?_,Nat.mod_lt _ hn,?_⟩
 ·rw [tK x i, ←hI,Nat.add_mul,Nat.add_assoc,Nat.mul_comm (s/n) n,Nat.div_add_mod,hs,Nat.mul_add,Nat.mul_assoc,Nat.mul_comm rest b];omega
 ·rw [Nat.div_lt_iff_lt_mul hn,hs];have h1:=Nat.mod_lt (x/b^i) (show 0<b by omega);have h2:rest*b+b≤n*b:=by
   rw [←Nat.succ_mul];exact Nat.mul_le_mul_right _ hr
  rw [Nat.mul_comm b n];omega
theorem vD {x y i:Nat} (hI:x/b^(i+1)=y/b^(i+1)):(x/b^i%b<y/b^i%b→x<y)∧(x/b^i%b=y/b^i%b→x/b^i=y/b^i):=by
 have ex:=tK (b:=b) x i;have ey:=tK (b:=b) y i;rw [hI]at ex;refine⟨fun h=>?_,fun h=>by omega⟩;have h1:x/b^i<y/b^i:=by omega
 refine Nat.lt_of_not_le fun h2=>?_;have:=Nat.div_le_div_right (c:=b^i) h2;omega
theorem Cp (hb:2≤b) {x y:Nat} (h:(eG b x).length< (eG b y).length):x<y:=by
 have h1:=(gr hb y _).1 h;have h2:¬b^(eG b x).length≤x:=fun hh=>by
  have:=(gr hb x _).2 hh;omega
 omega
end
abbrev cn:TypeId:=88
abbrev dO:TypeId:=153
abbrev sF:TypeId:=86
theorem uF:Tryz.prog.underlying sF=some (.slice dO):=by kernel_rfl
theorem ui:(Tryz.prog.info? dO).map (fun i=>(i.zero,i.size,i.bytes))=some (some (.int .u32 0),1,4):=by kernel_rfl
def eL (n:Int):List Value:=[.int .u32 n]
theorem pN:zH eL 1 sF dO 4:=⟨fun _=>rfl,by decide,fun x u hu=>by rw [List.mem_singleton.1 hu];rfl,uF,_,ui,rfl⟩
theorem dQ:2≤4294967296:=by decide
def sN (e:TypeId) (w:World) (l:Sl):Prop:=∀p,l.a=some p→∃c fz,w.heap[p.block]? =some (.cells c e fz)
theorem sN.on {e:TypeId} {w w':World} {l:Sl} (h:sN e w l) (hb:Below w.heap.size w w'):sN e w' l:=fun p hp=>by
 obtain⟨c,fz,hc⟩:=h p hp;exact⟨c,fz,ah hb hc⟩
theorem kH {w:World} {B:Nat} {e:TypeId} {sz:Nat} {l:Sl} {xs:List Value} (h:w.ownsRow B e sz l.v l.n xs):sN e w l:=by
 intro p hp;obtain⟨la,ln,lc⟩:=l;rcases h.2 with⟨hv,_⟩ |⟨g,cap,cur,hv,_,hg,_⟩
 ·cases hv;cases hp
 ·cases hv;cases hp;exact⟨_,_,hg⟩
structure bc (w:World) (l:Sl) (n:Nat):Prop extends LsAt eL 1 w l (eG 4294967296 n)where
 ty:sN dO w l
theorem bc.on {w w':World} {l:Sl} {n:Nat} (h:bc w l n) (hb:Below w.heap.size w w'):bc w' l n:=⟨LsAt.on h.toLsAt hb,h.ty.on hb⟩
theorem bc.keep {w w':World} {l:Sl} {n:Nat} (h:bc w l n) (hk:∀p c fz,l.a=some p→w.heap[p.block]? =some (.cells c dO fz)→w'.heap[p.block]? =w.heap[p.block]?) (hz:w.heap.size≤w'.heap.size):bc w' l n:=by
 refine⟨⟨h.n,fun j x hj=>?_,h.k⟩,fun p hp=>?_⟩
 ·obtain⟨p,hp,hlt,hc⟩:=h.r j x hj;obtain⟨c,fz,hb⟩:=h.ty p hp;refine⟨p,hp,Nat.lt_of_lt_of_le hlt hz,fun k v hv=>?_⟩;rw [←hc k v hv];unfold World.cell?;rw [ay,ay,hk p c fz hp hb]
 ·obtain⟨c,fz,hb⟩:=h.ty p hp;exact⟨c,fz,(hk p c fz hp hb).trans hb⟩
theorem bc.put {w w':World} {l s:Sl} {n b:Nat} {T:TypeId} {fz:Nat×Nat} (h:bc w l n) (hb:w.heap[b]? =some (.cells #[s.v] T fz)) (hT:T≠dO) (hne:∀j,j≠b→w'.heap[j]? =w.heap[j]?) (hz:w.heap.size≤w'.heap.size):bc w' l n:=
 h.keep (fun p c fz _ hc=>hne _ fun e=>by
  rw [e,hb]at hc;cases hc;exact hT rfl) hz
theorem cE {q:World} {b:Nat} {x s:Sl} {K:World→Prop} (h:q.heap[b]? =some (.cells #[x.v] cn (0,0))) (hk:∀q',q'.heap[b]? =some (.cells #[s.v] cn (0,0))→(∀l n,bc q l n→bc q' l n)→(∀B w0,B≤b→Below B w0 q→Below B w0 q')→(∀j,j≠b→q'.heap[j]? =q.heap[j]?)→q'.heap.size=q.heap.size→K q'):
  s.v.oneCell'=true∧(∃u,q.cell? ⟨b,0,none⟩=some u)∧q.frozen? ⟨b,0,none⟩=false∧∀q',q'=q.setCell ⟨b,0,none⟩ s.v→K q':=
 eX (aV h [s.v] rfl (fun v hv=>by rw [List.mem_singleton.1 hv];rfl) fun q' h1 h2 h3 h4=>hk q' h1 (fun l n hn=>hn.put h (by decide) h2 (by omega)) h4 h2 h3)
theorem aU {w:World} {b:Nat} {x:Sl} {T:TypeId} {fz:Nat×Nat} (h:w.heap[b]? =some (.cells #[x.v] T fz)):w.cell? ⟨b,0,none⟩=some (.slice x.a x.n x.c)∧True:=⟨aK h,trivial⟩
theorem cG {w:World} {b:Nat} {x:Sl} {T:TypeId} {fz:Nat×Nat} (h:w.heap[b]? =some (.cells #[x.v] T fz)):w.cell? ((⟨b,0,none⟩:Addr).add 0)=some (.slice x.a x.n x.c):=by rw [aj _ _ h];rfl
theorem Rw.head {α:Type} {enc:α→List Value} {sz:Nat} {w:World} {a:Option Addr} {xs:List α} (h:Rw enc sz w a xs) (n:Nat):Rw enc sz w (bG a 0 n sz) (xs.take n):=by
 intro j x hj;have hlt:j<n:=by
  have:=(List.getElem?_eq_some_iff.1 hj).1;rw [List.length_take]at this;omega
 obtain⟨p,rfl,hp,hc⟩:=h.take n j x hj;unfold bG;rw [if_neg (by omega)];refine⟨p.add (0*sz),rfl,by rw [ay];exact hp,fun k v hk=>?_⟩;rw [Addr.add_add p,Nat.zero_mul,Nat.zero_add];exact hc k v hk
theorem Ar.u64 {z:Int} {F:Int→Prop} (n:Nat) (hz:z=(n:Int)) (hn:n<18446744073709551616) (h:F (n:Int)):Ar .u64 z F:=by
 subst hz;exact Ar.ok (k:=.u64) (by show(0:Int)≤_;omega) (by show _≤(18446744073709551615:Int);omega) h
theorem ek (x:Nat):IntKind.wrap .u32 (x:Int)=((x%4294967296:Nat):Int):=by
 simp [IntKind.wrap,IntKind.bits,IntKind.signed]
theorem dy {x:Nat} (h:x<18446744073709551616):IntKind.wrap .u64 (x:Int)=(x:Int):=dv (by show(0:Int)≤_;omega) (by show _≤(18446744073709551615:Int);omega)
theorem Kl (x:Nat):Int.fdiv (x:Int) (2^(min (32:Int).toNat (IntKind.bits .u64)))=((x/4294967296:Nat):Int):=by
 rw [show(2:Int)^(min (32:Int).toNat (IntKind.bits .u64))=((4294967296:Nat):Int) by decide,Int.fdiv_eq_ediv_of_nonneg _ (by omega)];rfl
theorem pK (w:World) (c:Nat) (hc:c≤1000000):∃w1,(Instr.makeSlice sF (.int .i64 0) (.int .i64 (c:Int))).run Tryz.prog w= .ok (.slice (some (nb w)) 0 c) w1∧w1.ownsRow w.heap.size dO 1 (.slice (some (nb w)) 0 c) 0 (([]:List Int).flatMap eL)∧Below w.heap.size w w1:=by
 obtain⟨i,hi,hz,hs,hb⟩:=info_parts ui;have:=Go.run_make (P:=Tryz.prog) w sF dO i (.int .u32 0) uF hi hz .i64 .i64 0 (c:Int) (by omega) (by omega) (by rw [hb];omega) (by omega);refine⟨_,this,?_,af _ _⟩;refine⟨rfl,.inr ⟨w.heap.size,c,_,rfl,Nat.le_refl _,ak _ _,Nat.zero_le _,by unfold maxLen;omega,?_,by simp⟩⟩;rw [size_madeCells,hs];simp
theorem gA (w:World) (l:Sl) (xs:List Int) (h:LsAt eL 1 w l xs) (ht:sN dO w l) (hc:l.n≤l.c) (hr:DB 4294967296 xs) (hl:xs.length≤1000000):
  CP 93 #[l.v] w fun e w'=>∃r:Sl,e= .returned (.agg #[r.v])∧bc w' r (di 4294967296 xs)∧Below w.heap.size w w':=by
 refine aN (BR l.a l.n l.c w) ?_;intro w1 hw1;have b1:Below w.heap.size w w1:=by subst hw1;exact af _ _
 have x1:w1.heap[w.heap.size]? =some (.cells #[bZ.v] cn (0,0)):=by subst hw1;exact ak _ _
 have h1:=LsAt.on h b1;have hn:=h.n;have out:∀n,n≤xs.length→(∀(j:Nat) (hj:j<xs.length),n≤j→xs[j]=0)→(∀(hk:n-1<xs.length),0<n→xs[n-1]≠0)→bc w1 ⟨bG l.a 0 n 1,n-0,n-0⟩ (di 4294967296 xs):=by
  intro n hn h0 h2;have e:=Fr dQ hr hn h0 h2;refine⟨?_,fun p hp=>?_⟩;rotate_left
  ·unfold bG at hp;by_cases hz:n=0
   ·rw [if_pos hz]at hp;exact ht.on b1 p hp
   ·rw [if_neg hz]at hp;obtain⟨p',hp',rfl⟩:=Option.map_eq_some_iff.1 hp;rw [ay];exact ht.on b1 p' hp'
  rw [←e];refine⟨by rw [List.length_take];show n-0=_;omega,h1.r.head n,?_⟩;unfold bG;by_cases hz:n=0
  ·subst hz;rw [if_pos rfl];cases l.a with
   |none=>exact .inl rfl
   |some p=>exact .inr ⟨p,rfl⟩
  ·rw [if_neg hz];obtain⟨p,hp,_⟩:=bj h1.r (show 0<xs.length by omega) rfl;rw [hp];exact .inr ⟨_,rfl⟩
 intro I hI;have key:∀n,n≤xs.length→(∀(j:Nat) (hj:j<xs.length),n≤j→xs[j]=0)→I [.int .i64 (n:Int)] w1:=by
  intro n;induction n with
  |zero=>
   intro _ h0;refine hI _ w1 (ac.no rfl ⟨by omega,by omega,by omega,by omega,trivial,cE (s:=⟨bG l.a 0 0 1,0-0,0-0⟩) x1 fun q' hx hN hB _ _=>⟨_,_,_,aU hx,⟨bG l.a 0 0 1,0-0,0-0⟩,rfl,hN _ _ (out 0 (Nat.zero_le _) h0 (fun _ h=>absurd h (by decide))),hB _ _ (Nat.le_refl _) b1⟩⟩)
  |succ n ih=>
   intro hle h0;obtain⟨p,hp,c0⟩:=bj h1.r (show n<xs.length by omega) rfl;refine hI _ w1 (ac.yes (decide_eq_true (by omega)) (Ar.nat n (by omega) (by omega) (ag.mk p hp ⟨by omega,by omega,_,c0,ac.mk (fun he=>?_) fun he=>?_⟩)))
   ·have he:xs[n]=0:=by simpa using he
    refine Ar.nat n (by omega) (by omega) (ih (by omega) fun j hj hle2=>?_);by_cases e:j=n
    ·subst e;exact he
    ·exact h0 j hj (by omega)
   ·have he:xs[n]≠0:=by simpa using he
    exact⟨by omega,by omega,by omega,by omega,trivial,cE (s:=⟨bG l.a 0 (n+1) 1,n+1-0,n+1-0⟩) x1 fun q' hx hN hB _ _=>⟨_,_,_,aU hx,⟨bG l.a 0 (n+1) 1,n+1-0,n+1-0⟩,rfl,hN _ _ (out (n+1) hle h0 (fun _ _=>he)),hB _ _ (Nat.le_refl _) b1⟩⟩
 rw [hn];exact key xs.length (Nat.le_refl _) fun j hj hle=>absurd hj (by omega)
theorem yJ (w:World) (n:Nat) (hn:n<18446744073709551616):
  CP 53 #[.int .u64 (n:Int)] w fun e w'=>∃r:Sl,e= .returned (.agg #[r.v])∧bc w' r n∧Below w.heap.size w w':=by
 refine aN (Aj (n:Int) w) ?_;intro w1 hw1;have b1:Below w.heap.size w w1:=by subst hw1;exact af _ _
 have x1:w1.heap[w.heap.size]? =some (.cells #[bZ.v] cn (0,0)):=by subst hw1;exact ak _ _
 refine⟨by decide,?_⟩;intro w2 hw2;rw [Kl,ek,ek]at hw2;have b2:Below w1.heap.size w1 w2:=by subst hw2;exact af _ _
 have l2:w2.heap[w1.heap.size]? =some (.cells #[.int .u32 ((n%4294967296:Nat):Int),.int .u32 ((n/4294967296%4294967296:Nat):Int)] dO (0,0)):=by subst hw2;exact ak _ _
 have hls:LsAt eL 1 w2 ⟨some (nb w1),2,2⟩ [((n%4294967296:Nat):Int),((n/4294967296%4294967296:Nat):Int)]:=by
  refine⟨rfl,fun j x hj=>?_,.inr ⟨_,rfl⟩⟩;refine⟨nb w1,rfl,(Array.getElem?_eq_some_iff.1 l2).1,fun k v hk=>?_⟩
  match k,hk with
  |0,hk=>
   cases hk;rw [ax,Nat.mul_one,aj _ _ l2]
   match j,hj with
   |0,hj=>cases hj;rfl
   |1,hj=>cases hj;rfl
 have hin:DB 4294967296 [((n%4294967296:Nat):Int),((n/4294967296%4294967296:Nat):Int)]:=by
  intro x hx;simp only [List.mem_cons,List.not_mem_nil,or_false]at hx;rcases hx with rfl |rfl<;>omega
 have hv:di 4294967296 [((n%4294967296:Nat):Int),((n/4294967296%4294967296:Nat):Int)]=n:=by
  simp only [di,Int.toNat_natCast];omega
 refine(gA w2 ⟨some (nb w1),2,2⟩ _ hls (fun p hp=>by cases hp;exact⟨_,_,l2⟩) (Nat.le_refl _) hin (by simp)).mono ?_;rintro e w3 ⟨r,rfl,hN,b3⟩;rw [hv]at hN;have b23:=ae b2 b3;refine⟨r.a,r.n,r.c,rfl,cE (s:=r) (ah b23 x1) fun q' hx hN' hB _ _=>⟨_,_,_,aU hx,r,rfl,hN' _ _ hN,hB _ _ (Nat.le_refl _) (ae b1 b23)⟩⟩
theorem gE (w:World) (l:Sl) (n:Nat) (h:bc w l n):
  CP 43 #[.agg #[l.v]] w fun e w'=>e= .returned (.bool (decide (n=0)))∧Below w.heap.size w w':=by
 refine aN (AB l.a l.n l.c w) ?_;intro w1 hw1;have b1:Below w.heap.size w w1:=by subst hw1;exact af _ _
 have x1:w1.heap[w.heap.size]? =some (.cells #[l.v] cn (0,0)):=by subst hw1;exact ak _ _
 refine⟨_,_,_,cG x1,?_,b1⟩;have hn:=h.n;congr 2;rw [Bool.eq_iff_iff,beq_iff_eq,decide_eq_true_eq, ←Hg dQ, ←List.length_eq_zero_iff, ←hn];omega
theorem rt (w:World) (l:Sl) (n:Nat) (h:bc w l n) (i:Nat):
  CP 153 #[.agg #[l.v],.int .i64 (i:Int)] w fun e w'=>e= .returned (.int .u32 ((n/4294967296^i%4294967296:Nat):Int))∧Below w.heap.size w w':=by
 refine aN (xj l.a l.n l.c (i:Int) w) ?_;intro w1 hw1;have b1:Below w.heap.size w w1:=by subst hw1;exact af _ _
 have x1:w1.heap[w.heap.size]? =some (.cells #[l.v] cn (0,0)):=by subst hw1;exact ak _ _
 have hn:=h.n;refine⟨_,_,_,cG x1,ac.mk (fun h0=>?_) fun h0=>?_⟩
 ·have h0:=of_decide_eq_true h0;rw [(jd dQ (n:=n) (i:=i) (by omega)).1];exact⟨rfl,b1⟩
 ·have h0:=of_decide_eq_false h0;have hlt:i< (eG 4294967296 n).length:=by omega
  obtain⟨p,hp,c0⟩:=bj (bc.on h b1).r hlt rfl;rw [nh dQ hlt]at c0;exact⟨_,_,_,cG x1,ag.mk p hp ⟨by omega,by omega,_,c0,rfl,b1⟩⟩
set_option maxHeartbeats 1000000 in
theorem uD (w:World) (la lb:Sl) (a b:Nat) (ha:bc w la a) (hb:bc w lb b) (h1:(eG 4294967296 a).length≤100000) (h2:(eG 4294967296 b).length≤100000):
  CP 82 #[.agg #[la.v],.agg #[lb.v]] w fun e w'=>∃r:Sl,e= .returned (.agg #[r.v])∧bc w' r (a+b)∧Below w.heap.size w w':=by
 refine aN (Ba la.a la.n la.c lb.a lb.n lb.c w) ?_;intro w1 hw1 w2 hw2 w3 hw3;have b1:Below w.heap.size w w1:=by subst hw1;exact af _ _
 have b2:Below w1.heap.size w1 w2:=by subst hw2;exact af _ _
 have b3:Below w2.heap.size w2 w3:=by subst hw3;exact af _ _
 have z1:w1.heap.size=w.heap.size+1:=by subst hw1;exact av _ _
 have z2:w2.heap.size=w1.heap.size+1:=by subst hw2;exact av _ _
 have b13:=ae b2 b3;have b03:=ae b1 b13;have x1:w3.heap[w.heap.size]? =some (.cells #[la.v] cn (0,0)):=ah b13 (by subst hw1;exact ak _ _);have x2:w3.heap[w1.heap.size]? =some (.cells #[lb.v] cn (0,0)):=ah b3 (by subst hw2;exact ak _ _);have x3:w3.heap[w2.heap.size]? =some (.cells #[bZ.v] cn (0,0)):=by subst hw3;exact ak _ _
 have hna:=ha.n;have hnb:=hb.n;obtain⟨N,hN⟩:∃N:Nat,(if((lb.n:Nat):Int)>((la.n:Nat):Int)then((lb.n:Nat):Int)else((la.n:Nat):Int))=(N:Int)∧la.n≤N∧lb.n≤N∧N≤100000:=by
  by_cases hh:((lb.n:Nat):Int)>((la.n:Nat):Int)
  ·exact⟨lb.n,if_pos hh,by omega,by omega,by omega⟩
  ·exact⟨la.n,if_neg hh,by omega,by omega,by omega⟩
 obtain⟨hN,n1,n2,n3⟩:=hN;obtain⟨w5,e5,o5,b5⟩:=pK w3 (N+1) (by omega);refine⟨_,_,_,cG x1,_,_,_,cG x2,(N:Int),w3,by rw [←hN];exact rx _ _ _ _ _,Ar.nat (N+1) rfl (by omega) ⟨_,_,_,w5,e5,?_⟩⟩;intro I hI;have key:=a_ (α:=Nat×List Int×Sl×World) N (fun i y=>y.2.1.length=i∧DB 4294967296 y.2.1∧di 4294967296 y.2.1+y.1*4294967296^i=a%4294967296^i+b%4294967296^i∧y.1≤1∧y.2.2.2.ownsRow w3.heap.size dO 1 y.2.2.1.v y.2.2.1.n (y.2.1.flatMap eL)∧Below w3.heap.size w3 y.2.2.2) (fun i y=>I [.int .i64 (i:Int),.int .u64 (y.1:Int),y.2.2.1.v] y.2.2.2) (0,[],⟨some (nb w3),0,N+1⟩,w5) ⟨rfl,fun x hx=>(by cases hx),by simp [di,Nat.mod_one],Nat.zero_le _,o5,b5⟩ ?_ ?_
 ·exact key
 ·rintro i hi ih ⟨c,L,f,q⟩ ⟨hL,hin,hv,hc,ho,hq⟩;change L.length=i at hL;change DB 4294967296 L at hin;change di 4294967296 L+c*4294967296^i=a%4294967296^i+b%4294967296^i at hv;change c≤1 at hc;change q.ownsRow w3.heap.size dO 1 f.v f.n (L.flatMap eL)at ho;change Below w3.heap.size w3 q at hq;have hfn:f.n=L.length:=(Rw.of_own ho (fun _=>rfl) (by decide)).2;refine hI _ _ f.a f.n f.c q (ac.yes (decide_eq_true (by omega)) ?_);intro w7 hw7;have b7:Below q.heap.size q w7:=by subst hw7;exact aM q
  have hq7:=ae hq b7;refine⟨_,_,_,aU (ah hq7 x1),_,_,_,aU (ah hq7 x2),?_⟩;have hb37:=ae b03 hq7;refine(rt w7 la a (ha.on hb37) i).mono ?_;rintro e w8 ⟨rfl,b8⟩;have hq8:=ae hq7 b8;refine⟨_,rfl,aU (ah hq8 x2),(rt w8 lb b (hb.on (ae b03 hq8)) i).mono ?_⟩;rintro e w9 ⟨rfl,b9⟩;have hq9:=ae hq8 b9;obtain⟨s,hs⟩:∃s,s=a/4294967296^i%4294967296+b/4294967296^i%4294967296+c:=⟨_,rfl⟩;have m1:=Nat.mod_lt (a/4294967296^i) (show 0<4294967296 by decide);have m2:=Nat.mod_lt (b/4294967296^i) (show 0<4294967296 by decide);refine⟨_,rfl,Ar.u64 (a/4294967296^i%4294967296+b/4294967296^i%4294967296) (by rw [dy (by omega),dy (by omega)];omega) (by omega) (Ar.u64 s (by omega) (by omega) ?_)⟩;intro w10 hw10;rw [ek]at hw10;obtain⟨f',w11,e1,e2,e3,e4,_⟩:=pN.push (aE (aE (aE ho b7) b8) b9) ((s%4294967296:Nat):Int) hw10 rfl hq9.size (by omega) (by decide);refine⟨f'.a,f'.n,f'.c,w11,e2,by decide,Ar.nat (i+1) rfl (by omega) ?_⟩;rw [Kl];exact ih (s/4294967296,L++ [((s%4294967296:Nat):Int)],f',w11) ⟨by rw [List.length_append];show _+1=_;omega,mz hin (Nat.mod_lt _ (by decide)),D1 hL hv hs,by show s/4294967296≤1;omega,e3,e4 _ hq9⟩
 ·rintro⟨c,L,f,q⟩ ⟨hL,hin,hv,hc,ho,hq⟩;change L.length=N at hL;change DB 4294967296 L at hin;change di 4294967296 L+c*4294967296^N=a%4294967296^N+b%4294967296^N at hv;change c≤1 at hc;change q.ownsRow w3.heap.size dO 1 f.v f.n (L.flatMap eL)at ho;change Below w3.heap.size w3 q at hq;have hfn:f.n=L.length:=(Rw.of_own ho (fun _=>rfl) (by decide)).2;refine hI _ _ f.a f.n f.c q (ac.no (decide_eq_false (by omega)) ?_);intro w12 hw12;rw [ek,Nat.mod_eq_of_lt (by omega)]at hw12;obtain⟨f',w13,e1,e2,e3,e4,_⟩:=pN.push ho (c:Int) hw12 rfl hq.size (by omega) (by decide);have hv2:di 4294967296 (L++ [(c:Int)])=a+b:=by
   rw [fU,ma,hL,Nat.mul_comm,hv,(jd dQ (n:=a) (i:=N) (by omega)).2,(jd dQ (n:=b) (i:=N) (by omega)).2]
  have hB13:=e4 _ hq;refine⟨f'.a,f'.n,f'.c,w13,e2,(gA w13 f' _ (LsAt.of_own pN e3) (kH e3) (Cn e3) (mz hin (by omega)) (by rw [List.length_append];show _+1≤_;omega)).mono ?_⟩;rintro e w14 ⟨r,rfl,hR,b14⟩;rw [hv2]at hR;have hB14:=ae hB13 b14;exact⟨r.a,r.n,r.c,rfl,cE (s:=r) (ah hB14 x3) fun q' hx hN' hB _ _=>⟨_,_,_,aU hx,r,rfl,hN' _ _ hR,hB _ _ (by omega) (ae b03 hB14)⟩⟩
end Go.Proofs.YtdlcfegnaphclaaGreat.Eng
