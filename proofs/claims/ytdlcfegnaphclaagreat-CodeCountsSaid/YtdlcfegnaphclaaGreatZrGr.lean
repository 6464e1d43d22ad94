/- Rows of bits, and all tokens' numbers, walked by the engine. -/
import Derived.Test.YtdlcfegnaphclaaGreatZrRb
import Derived.Test.YtdlcfegnaphclaaGreatZrSp
import Derived.Test.YtdlcfegnaphclaaGreatZrTab
set_option linter.unusedVariables false
set_option linter.unusedSimpArgs false
set_option maxRecDepth 100000
namespace Go.Proofs.YtdlcfegnaphclaaGreat.Eng
open Go Go.RowKit
abbrev gH:TypeId:=59
abbrev mY:TypeId:=130
theorem BD:Tryz.prog.underlying mY=some (.slice gH):=by kernel_rfl
theorem tV:(Tryz.prog.info? gH).map (fun i=>(i.zero,i.size,i.bytes))=some (some (.int .u64 0),1,8):=by kernel_rfl
def dd (n:Int):List Value:=[.int .u64 n]
theorem qZ:xf dd 1 mY gH 8:=⟨fun _=>rfl,by decide,fun x u hu=>by rw [List.mem_singleton.1 hu];rfl,BD,_,tV,rfl⟩
theorem sE (w:World) (n:Nat) (hn:n≤1000000):(Instr.makeSlice mY (.int .i64 n) (.int .i64 n)).run Tryz.prog w= .ok (.slice (some (nb w)) n n) (w.alloc (.cells (Array.replicate n (.int .u64 0)) gH)):=by
 obtain⟨i,hi,hz,hs,hb⟩:=info_parts tV;have:=Go.run_make (P:=Tryz.prog) w mY gH i (.int .u64 0) BD hi hz .i64 .i64 (n:Int) (n:Int) (by omega) (Int.le_refl _) (by rw [hb];omega) (by omega);rw [this];congr 3;rw [hs];apply Array.ext
 ·rw [size_madeCells];simp
 ·intro j h1 h2;simp only [madeCells,Array.getElem_map,Array.getElem_range,Array.getElem_replicate];show(#[Value.int .u64 0]:Array Value)[j%1]! =_;rw [Nat.mod_one];rfl
theorem fA {w:World} {n:Nat} {e:TypeId} (xs:List Value) (hx:xs.length=n) (hn:n≤1000000) {B:Nat} (hB:B≤w.heap.size):(w.alloc (.cells xs.toArray e)).ownsRow B e 1 (.slice (some (nb w)) n n) n xs:=by
 refine⟨by rw [hx,Nat.mul_one],.inr ⟨w.heap.size,n,xs.toArray,rfl,hB,ak _ _,Nat.le_refl _,by unfold maxLen;omega,by rw [List.size_toArray,hx,Nat.mul_one],?_⟩⟩;rw [←hx,Nat.mul_one];exact List.take_length
theorem CA (i:Nat) (hi:i≤1000000):IntKind.wrap .i64 (Int.tdiv (i:Int) 64)=((i/64:Nat):Int):=by
 have:Int.tdiv (i:Int) 64=((i/64:Nat):Int):=rfl;rw [this];exact dm (by show(-9223372036854775808:Int)≤_;omega) (by show _≤(9223372036854775807:Int);omega)
theorem FN (i:Nat):Int.tmod (i:Int) 64=((i%64:Nat):Int):=rfl
theorem fQ (x:Nat) (hx:x<2^64):(BitVec.ofInt 64 (x:Int)).toNat=x:=by
 rw [BitVec.ofInt_natCast,BitVec.toNat_ofNat,Nat.mod_eq_of_lt hx]
theorem jl (x:Nat) (hx:x<2^64):IntKind.wrap .u64 (x:Int)=(x:Int):=dm (by show(0:Int)≤_;omega) (by show _≤(18446744073709551615:Int);omega)
theorem C8 (x m:Nat) (hx:x<2^64) (hm:m<64):((IntKind.wrap .u64 ((BitVec.ofInt (IntKind.bits .u64) (Int.fdiv (x:Int) (2^(min ((m:Nat):Int).toNat (IntKind.bits .u64))))&&&BitVec.ofInt (IntKind.bits .u64) 1).toNat:Int):Int)==1)=x.testBit m:=by
 show((IntKind.wrap .u64 ((BitVec.ofInt 64 (Int.fdiv (x:Int) (2^(min m 64)))&&&BitVec.ofInt 64 1).toNat:Int):Int)==1)=_;have h1:Int.fdiv (x:Int) (2^(min m 64))=((x/2^m:Nat):Int):=by
  rw [Nat.min_eq_left (by omega),Int.fdiv_eq_ediv_of_nonneg _ (Int.pow_nonneg (by decide))];simp
 have hd:x/2^m<2^64:=Nat.lt_of_le_of_lt (Nat.div_le_self _ _) hx;rw [h1,BitVec.toNat_and,fQ _ hd];have h2:(BitVec.ofInt 64 1).toNat=1:=by decide
 rw [h2,Nat.and_one_is_mod,jl _ (by omega),Nat.testBit_eq_decide_div_mod_eq];by_cases e:x/2^m%2=1
 ·rw [e];simp
 ·have:x/2^m%2=0:=by omega
  rw [this];simp
theorem HW (x m:Nat) (hx:x<2^64) (hm:m<64):IntKind.wrap .u64 ((BitVec.ofInt (IntKind.bits .u64) (x:Int)|||BitVec.ofInt (IntKind.bits .u64) (IntKind.wrap .u64 ((1:Int)*2^(min ((m:Nat):Int).toNat (IntKind.bits .u64))))).toNat:Int)=((x|||2^m:Nat):Int):=by
 show IntKind.wrap .u64 ((BitVec.ofInt 64 (x:Int)|||BitVec.ofInt 64 (IntKind.wrap .u64 ((1:Int)*2^(min m 64)))).toNat:Int)=_;have hp:2^m<2^64:=Nat.pow_lt_pow_right (by decide) hm;have h1:(1:Int)*2^(min m 64)=((2^m:Nat):Int):=by
  rw [Nat.min_eq_left (by omega),Int.one_mul];simp
 rw [h1,jl _ hp,BitVec.toNat_or,fQ _ hx,fQ _ hp];exact jl _ (Nat.or_lt_two_pow hx hp)
theorem iu (w:World) (A:Option Addr) (N C n:Nat) (p:Nat→Bool) (hr:Rw dd 1 w A (bu n p)) (hN:N=(bu n p).length) (hn:n≤100000) (i:Nat) (hi:i<n):
  CP 75 #[.slice A N C,.int .i64 (i:Int)] w fun e w'=>e= .returned (.bool (p i))∧w'=w:=by
 refine aL (AS A N C i w) ?_;unfold Lg;rw [CA i (by omega),FN];rw [cK]at hN;have hk:i/64< (n+63)/64:=by omega
 obtain⟨q,hq,_,hc⟩:=hr _ _ (oL n p hk);have c0:=hc 0 _ rfl;rw [ay]at c0;refine⟨by decide,af.mk q hq ⟨by omega,by omega,_,c0,by decide,by omega,?_,rfl⟩⟩;rw [C8 _ _ (nM _ _ _) (Nat.mod_lt _ (by decide)),oH n p hi]
theorem xO (w:World) (B:Nat) (l:Sl) (ws:List Int) (h:w.ownsRow B gH 1 l.v l.n (ws.flatMap dd)) (i x:Nat) (hi:i≤1000000) (hk:i/64<ws.length) (hx:ws[i/64]=(x:Int)) (hlt:x<2^64):
  CP 146 #[.slice l.a l.n l.c,.int .i64 (i:Int)] w fun e w'=>e= .returned (.tuple #[])∧w'.ownsRow B gH 1 l.v l.n ((ws.set (i/64) ((x|||2^(i%64):Nat):Int)).flatMap dd)∧(∀j,l.v.ownBlock≠some j→w'.heap[j]? =w.heap[j]?)∧w'.heap.size=w.heap.size∧Below B w w':=by
 refine aL (vq l.a l.n l.c i w) ?_;rintro w1 rfl;have h1:w.drew.ownsRow B gH 1 l.v l.n (ws.flatMap dd):=kE h;have hls:=LsAt.of_own qZ h1;have hn:=hls.n;rw [CA i hi,FN];obtain⟨q,hq,c0⟩:=aZ hls.r hk rfl;rw [hx]at c0;refine⟨by decide,af.mk q hq ⟨by omega,by omega,_,c0,by decide,by omega,af.mk q hq ⟨by omega,by omega,?_⟩⟩⟩;rw [HW x _ hlt (Nat.mod_lt _ (by decide))];refine fj (jF (enc:=dd) (fun _=>rfl) (by decide) (fun y u hu=>by rw [List.mem_singleton.1 hu];rfl) h1 hn hq (i/64) hk _ ?_);intro w' h' hs hz hB;exact⟨rfl,h',hs,hz,hB _ _ (Nat.le_refl _) ((Below.refl _ _).drew)⟩
theorem bw.off {w w':World} {v:Nat} {s:ar} {T:List aP} (h:bw w v s T) {B:Nat} (hb:Below B w w') (hv:v<B) {B' sz n:Nat} {e:TypeId} {u:Value} {xs:List Value} (ho:w.ownsRow B' e sz u n xs) (he:bN≠e) (hk:∀k,u.ownBlock≠some k→w'.heap[k]? =w.heap[k]?):bw w' v s T:=by
 obtain⟨w0,x,tp,bp,mp,d,l,uses,hR⟩:=h;have hlt:=hR.lt;refine⟨w0,x,tp,bp,mp,d,l,uses,hR.parts,hR.below.trans (hb.mono (by omega)),hlt,by rw [hb.block v hv];exact hR.blk,?_⟩;rcases hR.once with h |⟨h1,h2,h3⟩
 ·exact .inl h
 ·exact .inr ⟨h1,h2,aN h3 fun k hk3=>hk k (bW h3 ho he k hk3)⟩
theorem bw.own_touch {w w':World} {v:Nat} {s:ar} {T:List aP} (h:bw w v s T) (t:au v w w') {B sz n:Nat} {e:TypeId} {u:Value} {xs:List Value} (ho:w.ownsRow B e sz u n xs) (he:e≠dC):w'.ownsRow B e sz u n xs:=by
 obtain⟨w0,x,tp,bp,mp,d,l,uses,hR⟩:=h;exact t.own ho (az ho hR.blk he)
theorem au.then_off {v B:Nat} {a b c:World} (t:au v a b) (hb:Below B b c) (hB:a.heap.size≤B):au v a c:=
 ⟨hb.os.trans t.os,hb.tape.trans t.tape,hb.output.trans t.output,Nat.le_trans t.size hb.size,fun k hk hv=>(hb.block k (Nat.lt_of_lt_of_le hk hB)).trans (t.block k hk hv)⟩
theorem sT (w:World) (n:Nat) (is:Value) (p:Nat→Bool) (v:Nat) (s:ar) (T:List aP) (hV:bw w v s T) (hn:n≤100000)
  (his:∀i,i<n→∀w1,bw w1 v s T→au v w w1→bH gr is [.int .i64 (i:Int)] w1 (fun e w2=>e= .returned (.bool (p i))∧bw w2 v s T∧au v w1 w2)):
  CP 71 #[.int .i64 (n:Int),is] w fun e w'=>∃l:Sl,e= .returned l.v∧w'.ownsRow w.heap.size gH 1 l.v l.n ((bu n p).flatMap dd)∧bw w' v s T∧au v w w':=by
 refine aL (By n is w) ?_;have hvl:=hV.lt;refine Ar.nat (n+64) (by omega) (by omega) (Ar.nat (n+63) (by omega) (by omega) ⟨by decide,?_⟩);rw [CA (n+63) (by omega)];obtain⟨m,hm⟩:∃m,m=(n+63)/64:=⟨_,rfl⟩;rw [←hm];refine⟨_,_,_,_,sE w m (by omega),?_⟩;have ho:(w.alloc (.cells (Array.replicate m (.int .u64 0)) gH)).ownsRow w.heap.size gH 1 (.slice (some (nb w)) m m) m ((bu n (fun j=>p j&&decide (j<0))).flatMap dd):=by
  have:=fA (w:=w) (e:=gH) (n:=m) (List.replicate m (Value.int .u64 0)) (by simp) (by omega) (Nat.le_refl w.heap.size);rw [uZ, ←hm];have e:(List.replicate m (0:Int)).flatMap dd=List.replicate m (Value.int .u64 0):=by
   clear this hm;induction m with
   |zero=>rfl
   |succ m ih=>rw [List.replicate_succ,List.flatMap_cons,ih,List.replicate_succ];rfl
  rw [e];simpa using this
 have b1:=ag w (.cells (Array.replicate m (.int .u64 0)) gH);intro I hI;have key:=aX (α:=World) n (fun i q=>q.ownsRow w.heap.size gH 1 (.slice (some (nb w)) m m) m ((bu n (fun j=>p j&&decide (j<i))).flatMap dd)∧bw q v s T∧au v w q) (fun i q=>I [.int .i64 (i:Int)] q) _ ⟨ho,hV.on b1,au.of_below b1⟩ ?_ ?_
 ·exact key
 ·rintro i hi ih q ⟨hown,hVq,tq⟩;refine hI _ _ (ac.yes (by simp;omega) ?_);intro J hJ;have hJ':∀q',(q'.ownsRow w.heap.size gH 1 (.slice (some (nb w)) m m) m ((bu n (fun j=>p j&&decide (j<i+1))).flatMap dd)∧bw q' v s T∧au v w q')→J [] q':=fun q' h=>hJ _ (Ar.nat (i+1) rfl (by omega) (ih q' h));refine(his i hi q hVq tq).mono ?_;rintro e w4 ⟨rfl,hV4,t4⟩;have ho4:=hVq.own_touch t4 hown (by decide);have tw4:=tq.trans t4;refine⟨_,rfl,ac.mk (fun hp=>?_) fun hp=>hJ' w4 ⟨by rw [uD n p hp];exact ho4,hV4,tw4⟩⟩;have hk:i/64< (bu n (fun j=>p j&&decide (j<i))).length:=by rw [cK];omega
  refine(xO w4 w.heap.size ⟨some (nb w),m,m⟩ _ ho4 i (wordAt n (fun j=>p j&&decide (j<i)) (i/64)) (by omega) hk (by simp [bu]) (nM _ _ _)).mono ?_;rintro e w5 ⟨rfl,ho5,hs5,hz5,b5⟩;refine⟨rfl,hJ' w5 ⟨?_,hV4.off b5 hvl ho4 (by decide) hs5,tw4.then_off b5 (Nat.le_refl _)⟩⟩;rw [tX n p hi hp];exact ho5
 ·rintro q ⟨hown,hVq,tq⟩;rw [zl]at hown;exact hI _ _ (ac.no (by simp) ⟨⟨some (nb w),m,m⟩,rfl,hown,hVq,tq⟩)
def bx (s:ar) (T:List aP):List Int:=(List.range T.length).map (fun i:Nat=>(i:Int))++s.specials.map (·.1)
theorem ew (s:ar) (T:List aP):(bx s T).length=T.length+s.specials.length:=by simp [bx]
theorem Dq {l:List Int} (h:l.Pairwise (·< ·)):mm l:=fun i j hi hj hij=>List.pairwise_iff_getElem.1 h i j hi hj hij
theorem kG {s:ar} {T:List aP} (hasc:(s.specials.map (·.1)).Pairwise (·< ·)) (hids:∀y∈s.specials,(T.length:Int)≤y.1):(bx s T).Pairwise (·< ·):=by
 rw [bx,List.pairwise_append];refine⟨?_,hasc,?_⟩
 ·rw [List.pairwise_map];exact List.pairwise_lt_range.imp (by intro a b h;omega)
 ·intro a ha b hb;obtain⟨i,hi,rfl⟩:=List.mem_map.1 ha;obtain⟨y,hy,rfl⟩:=List.mem_map.1 hb;have:=hids y hy;have:=List.mem_range.1 hi;omega
theorem mJ (s:ar) (T:List aP) (t:Int):t∈bx s T↔fM s T t=true:=by
 unfold bx fM;rw [List.mem_append,decide_eq_true_eq,Or.comm];refine or_congr Iff.rfl ?_;rw [List.mem_map];constructor
 ·rintro⟨i,hi,rfl⟩;have:=List.mem_range.1 hi;exact⟨by omega,by omega⟩
 ·rintro⟨h1,h2⟩;exact⟨t.toNat,List.mem_range.2 (by omega),by omega⟩
theorem up (w:World) (p:Nat) (xs:List (Int×Bs)) (h:va w p xs) (hl:xs.length≤1000000):CP 121 #[.pointer (some ⟨p,0,none⟩)] w fun e w'=>∃l:Sl,e= .returned l.v∧l.n=xs.length∧w'.ownsRow w.heap.size pW 2 l.v l.n (xs.flatMap aH)∧Below w.heap.size w w':=by
 refine aL (zk (some ⟨p,0,none⟩) w) ?_;obtain⟨l,mi,mt,c,h1,h2,h3,h4,_,_⟩:=h;obtain⟨la,ln,lc⟩:=l;change ln=xs.length at h3;subst h3;refine ac.no rfl (af.mk _ rfl ⟨la,_,lc,by rw [aj _ _ h1];exact h2.c0,?_⟩);refine(oR w la lc xs h4 (by omega)).mono ?_;rintro e w1 ⟨l,rfl,hn,ho,hb⟩;exact⟨_,_,_,rfl,l,rfl,hn,ho,hb⟩
theorem vE (w:World) (v:Nat) (s:ar) (T:List aP) (hV:bw w v s T) (hasc:(s.specials.map (·.1)).Pairwise (·< ·)):
  CP 61 #[.pointer (some ⟨v,0,none⟩)] w fun e w'=>∃l:Sl,e= .returned l.v∧w'.ownsRow w.heap.size bf 1 l.v l.n ((bx s T).flatMap aQ)∧Below w.heap.size w w':=by
 refine aL (Cb (some ⟨v,0,none⟩) w) ?_;obtain⟨w0,x,tp,bp,mp,d,l,uses,hR⟩:=hV;have hP:=hR.now;have hmost:=hP.ok.most;have hlen:=hP.ok.len;have hfew:=(iA hP.right).2.2.1;have hmx:s.specials.length≤32:=by
  have:=(iD hP.right).2.2.2.1;exact fN this
 refine(nv hR.vblk hP.tab).mono ?_;rintro e w1 ⟨rfl,hw⟩;subst hw;refine⟨_,rfl,?_⟩;intro I hI;have key:=aX (α:=Sl×World) T.length (fun i y=>y.2.ownsRow w1.heap.size bf 1 y.1.v y.1.n (((List.range i).map (fun i:Nat=>(i:Int))).flatMap aQ)∧y.1.n=i∧Below w1.heap.size w1 y.2) (fun i y=>I [.int .i64 (i:Int),y.1.v] y.2) (bV,w1) ⟨cS _ _ _ _ aQ,rfl,Below.refl _ _⟩ ?_ ?_
 ·exact key
 ·rintro i hi ih ⟨f,q⟩ ⟨hown,hn,hB⟩;change q.ownsRow w1.heap.size bf 1 f.v f.n _ at hown;change f.n=i at hn;change Below w1.heap.size w1 q at hB;refine hI _ f.a f.n f.c q (ac.yes (by simp;omega) ?_);intro w3 hw3;obtain⟨f',w4,g1,g2,g3,g4,_⟩:=fK.push hown (i:Int) hw3 rfl hB.size (by omega) (by decide);refine⟨f'.a,f'.n,f'.c,w4,g2,Ar.nat (i+1) rfl (by omega) (ih (f',w4) ⟨?_,by show f'.n=i+1;omega,g4 _ hB⟩)⟩;rw [List.range_succ,List.map_append];exact g3
 ·rintro⟨f,q⟩ ⟨hown,hn,hB⟩;change q.ownsRow w1.heap.size bf 1 f.v f.n _ at hown;change f.n=T.length at hn;change Below w1.heap.size w1 q at hB;refine hI _ f.a f.n f.c q (ac.no (by simp) ?_);refine(lg (hR.vblk.on hB)).mono ?_;rintro e w5 ⟨rfl,hw⟩;subst hw;refine⟨_,rfl,?_⟩;refine(up w5 mp s.specials (hP.on hB).marks hfew).mono ?_;rintro e w6 ⟨a,rfl,han,hao,b6⟩;refine⟨a.a,a.n,a.c,rfl,?_⟩;have hB6:=ae hB b6;intro I2 hI2;have key2:=aX (α:=Sl×World) s.specials.length (fun i y=>y.2.ownsRow w1.heap.size bf 1 y.1.v y.1.n (((List.range T.length).map (fun i:Nat=>(i:Int))++(s.specials.take i).map (·.1)).flatMap aQ)∧y.1.n=T.length+i∧y.2.ownsRow w1.heap.size pW 2 a.v a.n (s.specials.flatMap aH)∧Below w1.heap.size w1 y.2) (fun i y=>I2 [.int .i64 (i:Int),y.1.v] y.2) (f,w6) ⟨by simpa using aE hown b6,by show f.n=T.length+0;omega,bG hao hB.size,hB6⟩ ?_ ?_
  ·exact key2
  ·rintro i hi ih ⟨g,z⟩ ⟨hg,hgn,hza,hBz⟩;change z.ownsRow w1.heap.size bf 1 g.v g.n _ at hg;change g.n=T.length+i at hgn;change z.ownsRow w1.heap.size pW 2 a.v a.n _ at hza;change Below w1.heap.size w1 z at hBz;obtain⟨p,hp,_,hc⟩:=(LsAt.of_own eF hza).r i _ (List.getElem?_eq_getElem hi);have c0:=hc 0 _ rfl;rw [ay]at c0;refine hI2 _ g.a g.n g.c z (ac.yes (by simp;omega) (af.mk p hp ⟨by omega,by omega,_,_,⟨c0,hc 1 _ rfl,trivial⟩,?_⟩));intro w8 hw8;refine aT [.int .i64 0,.string ⟨#[]⟩] [.int .i64 s.specials[i].1,.string (str s.specials[i].2)] rfl (fy _ _) w8 hw8 ?_;intro w9 h9 hz9 b9;refine⟨_,aj _ _ h9 0,?_⟩;intro w10 hw10;have hB9:=ae hBz b9;obtain⟨g',w11,e1,e2,e3,e4,e5⟩:=fK.push (aE hg b9) s.specials[i].1 hw10 rfl hB9.size (by omega) (by decide);have hza9:=aE hza b9;refine⟨g'.a,g'.n,g'.c,w11,e2,Ar.nat (i+1) rfl (by omega) (ih (g',w11) ⟨?_,by show g'.n=T.length+(i+1);omega,aN hza9 fun k hk=>e5 k (b_ hza9 k hk).2 (bW hza9 (aE hg b9) (by decide) k hk),e4 _ hB9⟩)⟩;rw [List.take_add_one,List.getElem?_eq_getElem hi,List.map_append, ←List.append_assoc];exact e3
  ·rintro⟨g,z⟩ ⟨hg,hgn,hza,hBz⟩;change z.ownsRow w1.heap.size bf 1 g.v g.n _ at hg;change g.n=T.length+s.specials.length at hgn;change Below w1.heap.size w1 z at hBz;rw [List.take_length]at hg;have hgl:g.n=(bx s T).length:=by rw [ew,hgn]
   have hgg:z.ownsRow w1.heap.size bf 1 g.v g.n ((bx s T).flatMap aQ):=hg;refine hI2 _ g.a g.n g.c z (ac.no (by simp;omega) ?_);have hrow:=(LsAt.of_own fK hgg).r;have hrise:=Dq (kG hasc hP.ids);have hsort:CP 122 #[.slice g.a g.n g.c] z fun e w'=>e= .returned (.tuple #[])∧Below z.heap.size z w':=by
    rw [hgl];exact Ep z g.a g.c _ hrow hrise (by rw [ew];omega) (by rw [ew];omega)
   refine hsort.mono ?_;rintro e w12 ⟨rfl,b12⟩;exact⟨rfl,g,rfl,aE hgg b12,ae hBz b12⟩
theorem AI (w:World) (v:Nat) (s:ar) (T:List aP) (hV:bw w v s T) (a b:Int) (ha:(aK s T).Has a) (hb:(aK s T).Has b):
  CP 76 #[.pointer (some ⟨v,0,none⟩),.int .i64 a,.int .i64 b] w fun e w'=>e= .returned (.bool (decide ((aK s T).Canon [a,b])))∧bw w' v s T∧au v w w':=by
 refine aR (Ba (some ⟨v,0,none⟩) a b w (fun u w'=>u= .bool (decide ((aK s T).Canon [a,b]))∧bw w' v s T∧au v w w') ?_) (by rintro v w' ⟨rfl,h⟩;exact⟨rfl,h⟩);have parts:∀ {q:World},bw q v s T→∃x tp bp mp,cw q s T x tp bp mp∧∃c,mZ q v c tp bp mp:=by
  rintro q ⟨w0,x,tp,bp,mp,d,l,uses,hR⟩;exact⟨x,tp,bp,mp,hR.now,_,hR.vblk⟩
 obtain⟨x,tp,bp,mp,hP,_⟩:=parts hV;have hok:=nO hP;have hab:∀t∈ [a]++ [b],(aK s T).Has t:=by
  intro t ht;simp at ht;rcases ht with rfl |rfl
  ·exact ha
  ·exact hb
 refine(lI w v s T hV a).mono ?_;rintro e w1 ⟨rfl,hV1,t1⟩;refine⟨_,rfl,ac.mk (fun h1=>?_) fun h1=>⟨?_,hV1,t1⟩⟩
 ·have ca:=(ie hP ha).1 h1;refine(lI w1 v s T hV1 b).mono ?_;rintro e w2 ⟨rfl,hV2,t2⟩;have t12:=t1.trans t2;refine⟨_,rfl,ac.mk (fun h2=>?_) fun h2=>⟨?_,hV2,t12⟩⟩
  ·have cb:=(ie hP hb).1 h2;obtain⟨x2,tp2,bp2,mp2,hP2,c2,hB2⟩:=parts hV2;refine(wW hB2 hP2 a b ha hb ca cb).mono ?_;rintro e w3 ⟨r,rfl,hr,b3⟩;refine⟨r,rfl,?_,hV2.on b3,t12.trans (au.of_below b3)⟩;have hm:=Voc.canon_more hok (init:=[]) (l:=a) (t:=b) (fun x hx=>by simp at hx;rw [hx];exact ha) ca hb;congr 1;have hm2:(aK s T).Canon [a,b]↔(aK s T).Canon [b]∧(aK s T).Pair a b:=hm;cases r with
   |true=>exact(decide_eq_true (hm2.2 ⟨cb,hr.1 rfl⟩)).symm
   |false=>exact(decide_eq_false fun e=>by have:=hr.2 (hm2.1 e).2;cases this).symm
  ·rw [decide_eq_false fun e=>?_];have:=(ie hP hb).2 (Voc.canon_append hok (P:=[a]) (Q:=[b]) hab e).2;rw [h2]at this;cases this
 ·rw [decide_eq_false fun e=>?_];have:=(ie hP ha).2 (Voc.canon_append hok (P:=[a]) (Q:=[b]) hab e).1;rw [h1]at this;cases this
abbrev rj:TypeId:=132
abbrev IG:TypeId:=129
theorem H1:Tryz.prog.underlying IG=some (.slice mY):=by kernel_rfl
theorem Io:(Tryz.prog.info? mY).map (fun i=>(i.zero,i.size,i.bytes))=some (some (.slice none 0 0),1,24):=by kernel_rfl
def ro (r:Sl):List Value:=[r.v]
theorem Ew:xf ro 1 IG mY 24:=⟨fun _=>rfl,by decide,fun x u hu=>by rw [List.mem_singleton.1 hu];rfl,H1,_,Io,rfl⟩
def sx (G:List Int):List (Int×Value):=G.zipIdx.map fun x=>(x.1,.int .i64 (x.2:Int))
theorem DF (G:List Int) (x:Int):sx (G++ [x])=sx G++ [(x,.int .i64 (G.length:Int))]:=by simp [sx,List.zipIdx_append]
theorem tn (G:List Int) (k:Int):ez k (sx G)=(G.idxOf? k).map fun i:Nat=>Value.int .i64 (i:Int):=by
 have:=gV (fun x:Int=>x) k G 0;simp only [Nat.zero_add,List.map_id']at this;exact this
def gW (s:ar) (T:List aP) (i:Nat):Bool:=decide ((aK s T).Canon [(bx s T).getD i 0])
def ct (s:ar) (T:List aP) (i k:Nat):Bool:=decide ((aK s T).Canon [(bx s T).getD i 0,(bx s T).getD k 0])
structure kI (w:World) (g:Nat) (G:List Int) (al:Nat→Bool) (rel:Nat→Nat→Bool) (ids rows alone:Sl) (mb:Nat) (rs:List Sl) (m:Nat):Prop where
 blk:w.heap[g]? =some (.cells #[ids.v,.map (some mb),rows.v,alone.v] rj (0,0))
 oi:w.ownsRow 0 bf 1 ids.v ids.n (G.flatMap aQ)
 map:bv ba w mb (sx G)
 orows:w.ownsRow 0 mY 1 rows.v rows.n (rs.flatMap ro)
 rl:rs.length=m
 each:∀(i:Nat) (r:Sl),rs[i]? =some r→w.ownsRow 0 gH 1 r.v r.n ((bu G.length (rel i)).flatMap dd)
 oal:w.ownsRow 0 gH 1 alone.v alone.n ((bu G.length al).flatMap dd)
def rK (w:World) (g:Nat) (G:List Int) (al:Nat→Bool) (rel:Nat→Nat→Bool):Prop:=∃ids rows alone mb rs,kI w g G al rel ids rows alone mb rs G.length
theorem kI.on {w w':World} {g:Nat} {G:List Int} {al:Nat→Bool} {rel:Nat→Nat→Bool} {ids rows alone:Sl} {mb:Nat} {rs:List Sl} {m:Nat} (h:kI w g G al rel ids rows alone mb rs m) (hb:Below w.heap.size w w'):kI w' g G al rel ids rows alone mb rs m:=
 ⟨ah hb h.blk,aE h.oi hb,h.map.on hb,aE h.orows hb,h.rl,fun i r hr=>aE (h.each i r hr) hb,aE h.oal hb⟩
theorem rK.on {w w':World} {g:Nat} {G:List Int} {al:Nat→Bool} {rel:Nat→Nat→Bool} (h:rK w g G al rel) (hb:Below w.heap.size w w'):rK w' g G al rel:=by
 obtain⟨ids,rows,alone,mb,rs,h⟩:=h;exact⟨ids,rows,alone,mb,rs,h.on hb⟩
theorem bw.typed {w:World} {v:Nat} {s:ar} {T:List aP} (h:bw w v s T):∃c,w.heap[v]? =some (.cells c dC (0,0)):=by
 obtain⟨w0,x,tp,bp,mp,d,l,uses,hR⟩:=h;exact⟨_,hR.blk⟩
theorem bw.ne_cells {w:World} {v:Nat} {s:ar} {T:List aP} (h:bw w v s T) {k:Nat} {c:Array Value} {e:TypeId} {fz:Nat×Nat} (hk:w.heap[k]? =some (.cells c e fz)) (he:e≠dC):k≠v:=by
 obtain⟨c',hc⟩:=h.typed;rintro rfl;rw [hc]at hk;cases hk;exact he rfl
theorem bw.ne_map {w:World} {v:Nat} {s:ar} {T:List aP} (h:bw w v s T) {κ:Type} [DecidableEq κ] {kv:κ→Value} {r:Nat} {m:List (κ×Value)} (hm:bv kv w r m):r≠v:=by
 obtain⟨c',hc⟩:=h.typed;rintro rfl;obtain⟨es,k,hk,_⟩:=hm;rw [hc]at hk;cases hk
theorem kI.touch {w w':World} {g:Nat} {G:List Int} {al:Nat→Bool} {rel:Nat→Nat→Bool} {ids rows alone:Sl} {mb:Nat} {rs:List Sl} {m:Nat} (h:kI w g G al rel ids rows alone mb rs m) {v:Nat} {s:ar} {T:List aP} (hV:bw w v s T) (t:au v w w'):kI w' g G al rel ids rows alone mb rs m:=
 ⟨t.held (hV.ne_cells h.blk (by decide)) h.blk,hV.own_touch t h.oi (by decide),h.map.same (t.block mb h.map.lt (hV.ne_map h.map)),hV.own_touch t h.orows (by decide),h.rl,fun i r hr=>hV.own_touch t (h.each i r hr) (by decide),hV.own_touch t h.oal (by decide)⟩
theorem gT {w2 w3:World} {x u:Value} {e:TypeId} (hw:w3=w2.alloc (.cells #[x] e)) (hu:u.oneCell'=true) {k:World→Prop} (hk:∀w4,w4.heap[w2.heap.size]? =some (.cells #[u] e (0,0))→Below w2.heap.size w2 w4→k w4):u.oneCell'=true∧(∃y,w3.cell? (nb w2)=some y)∧w3.frozen? (nb w2)=false∧∀w4,w4=w3.setCell (nb w2) u→k w4:=
 fj (aT [x] [u] rfl (by intro y hy;rw [List.mem_singleton.1 hy];exact hu) w3 hw fun w4 h4 _ b4=>hk w4 h4 b4)
theorem bC {w:World} {b:Nat} {x:Value} {e:TypeId} {fz:Nat×Nat} (h:w.heap[b]? =some (.cells #[x] e fz)):w.cell? ⟨b,0,none⟩=some x:=aM h
theorem fZ {α:Type} {l:List α} {i:Nat} (h:i<l.length) (d:α):l.getD i d=l[i]:=by simp [List.getD,h]
theorem qE {s:ar} {T:List aP} (h1:gz T) (h2:s.right=true):256≤(bx s T).length∧(bx s T).length≤1032:=by
 have:=h1.most;have:=h1.len;have:=fN (iD h2).2.2.2.1;rw [ew];omega
theorem au.put {v d j:Nat} {a b:World} (t:au v a b) (hd:a.heap.size≤d) (u:Value):au v a (b.setCell ((⟨d,0,none⟩:Addr).add j) u):=
 ⟨t.os,t.tape,t.output,by rw [aU];exact t.size,fun k hk hv=>by rw [aq (by rw [ax];show k≠d;omega)];exact t.block k hk hv⟩
theorem bw.put {w:World} {v d j:Nat} {s:ar} {T:List aP} (h:bw w v s T) {c:Array Value} {e:TypeId} (hd:w.heap[d]? =some (.cells c e (0,0))) (he:bN≠e) (hv:v<d) (u:Value):bw (w.setCell ((⟨d,0,none⟩:Addr).add j) u) v s T:=by
 obtain⟨w0,x,tp,bp,mp,q,l,uses,hR⟩:=h;have hlt:=hR.lt;refine⟨w0,x,tp,bp,mp,q,l,uses,hR.parts,bJ hR.below (by omega) u,hlt,by rw [aq (by rw [ax];show v≠d;omega)];exact hR.blk,?_⟩;rcases hR.once with h |⟨h1,h2,h3⟩
 ·exact .inl h
 ·exact .inr ⟨h1,h2,bB h3 u (by rw [ax];exact az h3 hd he)⟩
theorem bw.growE {w w':World} {v:Nat} {s:ar} {T:List aP} (h:bw w v s T) {B:Nat} (hb:Below B w w') (hv:v<B) {B' n sz:Nat} {e:TypeId} {u:Value} {xs:List Value} (ho:w.ownsRow B' e sz u n xs) (he:bN≠e) (hk:∀k,k<w.heap.size→u.ownBlock≠some k→w'.heap[k]? =w.heap[k]?):bw w' v s T:=by
 obtain⟨w0,x,tp,bp,mp,d,l,uses,hR⟩:=h;have hlt:=hR.lt;refine⟨w0,x,tp,bp,mp,d,l,uses,hR.parts,hR.below.trans (hb.mono (by omega)),hlt,by rw [hb.block v hv];exact hR.blk,?_⟩;rcases hR.once with h |⟨h1,h2,h3⟩
 ·exact .inl h
 ·exact .inr ⟨h1,h2,aN h3 fun k hk3=>hk k (b_ h3 k hk3).2 (bW h3 ho he k hk3)⟩
theorem DQ (w:World) (v:Nat) (s:ar) (T:List aP) (hV:bw w v s T) (t:Int) (ht:(aK s T).Has t):
  CP 73 #[.pointer (some ⟨v,0,none⟩),.int .i64 t] w fun e w'=>e= .returned (.bool (decide ((aK s T).Canon [t])))∧bw w' v s T∧au v w w':=by
 have hP:∃x tp bp mp,cw w s T x tp bp mp:=by
  obtain⟨w0,x,tp,bp,mp,d,l,uses,hR⟩:=hV;exact⟨x,tp,bp,mp,hR.now⟩
 obtain⟨x,tp,bp,mp,hP⟩:=hP;refine(lI w v s T hV t).mono ?_;rintro e w1 ⟨rfl,h⟩;refine⟨?_,h⟩;congr 2;have:=ie hP ht;cases ha:gw s T t with
 |true=>exact(decide_eq_true (this.1 ha)).symm
 |false=>exact(decide_eq_false fun e=>by rw [this.2 e]at ha;cases ha).symm
theorem Dw (w:World) (v:Nat) (s:ar) (T:List aP) (hV:bw w v s T) (b0 b1:Nat) {e0 e1:TypeId} (ids:Sl) (G:List Int) (h0:w.heap[b0]? =some (.cells #[.pointer (some ⟨v,0,none⟩)] e0 (0,0))) (h1:w.heap[b1]? =some (.cells #[ids.v] e1 (0,0))) (oi:w.ownsRow 0 bf 1 ids.v ids.n (G.flatMap aQ)) (hG:∀t∈G,(aK s T).Has t) (i:Nat) (hi:i<G.length):
  CP 72 #[.int .i64 (i:Int),.pointer (some ⟨b0,0,none⟩),.pointer (some ⟨b1,0,none⟩)] w fun e w'=>e= .returned (.bool (decide ((aK s T).Canon [G.getD i 0])))∧bw w' v s T∧au v w w':=by
 refine aL (Co i (some ⟨b0,0,none⟩) (some ⟨b1,0,none⟩) w) ?_;intro w1 hw1;have b1':Below w.heap.size w w1:=by subst hw1;exact aO w
 have hls:=LsAt.of_own fK (aE oi b1');have hn:=hls.n;obtain⟨p,hp,c0⟩:=aZ hls.r hi rfl;refine af.mk _ rfl ⟨_,bC (ah b1' h0),af.mk _ rfl ⟨ids.a,ids.n,ids.c,bC (ah b1' h1),af.mk p hp ⟨by omega,by omega,_,c0,?_⟩⟩⟩;refine(DQ w1 v s T (hV.on b1') G[i] (hG _ (List.getElem_mem hi))).mono ?_;rintro e w2 ⟨rfl,hV2,t2⟩;refine⟨_,rfl,?_,hV2,(au.of_below b1').trans t2⟩;rw [fZ hi]
theorem DE (w:World) (v:Nat) (s:ar) (T:List aP) (hV:bw w v s T) (cg ci cv ca cids:Nat) {eg ei ev ea ed:TypeId} (g:Nat) (ids rows alone:Sl) (mb:Nat) (rs:List Sl) (m i k:Nat) (hb:v<cg∧v<ci∧v<cv∧v<ca∧v<cids)
  (hR:kI w g (bx s T) (gW s T) (ct s T) ids rows alone mb rs m) (hgh:∀t∈bx s T,(aK s T).Has t) (hgl:(bx s T).length≤1032)
  (h0:w.heap[cg]? =some (.cells #[.pointer (some ⟨g,0,none⟩)] eg (0,0))) (h1:w.heap[ci]? =some (.cells #[.int .i64 (i:Int)] ei (0,0))) (h2:w.heap[cv]? =some (.cells #[.pointer (some ⟨v,0,none⟩)] ev (0,0))) (h3:w.heap[ca]? =some (.cells #[.int .i64 ((bx s T).getD i 0)] ea (0,0))) (h4:w.heap[cids]? =some (.cells #[ids.v] ed (0,0)))
  (hi:i< (bx s T).length) (hk:k< (bx s T).length):
  CP 74 #[.int .i64 (k:Int),.pointer (some ⟨cg,0,none⟩),.pointer (some ⟨ci,0,none⟩),.pointer (some ⟨cv,0,none⟩),.pointer (some ⟨ca,0,none⟩),.pointer (some ⟨cids,0,none⟩)] w fun e w'=>e= .returned (.bool (ct s T i k))∧bw w' v s T∧au v w w':=by
 refine aL (BT k (some ⟨cg,0,none⟩) (some ⟨ci,0,none⟩) (some ⟨cv,0,none⟩) (some ⟨ca,0,none⟩) (some ⟨cids,0,none⟩) w) ?_;have hP:∃x tp bp mp,cw w s T x tp bp mp:=by
  obtain⟨w0,x,tp,bp,mp,d,l,uses,hR⟩:=hV;exact⟨x,tp,bp,mp,hR.now⟩
 obtain⟨x,tp,bp,mp,hP⟩:=hP;have hok:=nO hP;have hA:(aK s T).Has ((bx s T).getD i 0):=by rw [fZ hi];exact hgh _ (List.getElem_mem hi)
 have hB:(aK s T).Has ((bx s T).getD k 0):=by rw [fZ hk];exact hgh _ (List.getElem_mem hk)
 have hpair:ct s T i k=true→gW s T i=true∧gW s T k=true:=by
  intro h;have:=Voc.canon_append hok (P:=[(bx s T).getD i 0]) (Q:=[(bx s T).getD k 0]) (by
   intro t ht;simp only [List.cons_append,List.nil_append,List.mem_cons,List.not_mem_nil,or_false]at ht;rcases ht with rfl |rfl
   ·exact hA
   ·exact hB) (of_decide_eq_true h)
  exact⟨decide_eq_true this.1,decide_eq_true this.2⟩
 intro w1 hw1;have b1':Below w.heap.size w w1:=by subst hw1;exact aO w
 have t1:au v w w1:=au.of_below b1';have hR1:=hR.on b1';have hV1:=hV.on b1';have al1:=LsAt.of_own qZ hR1.oal;refine af.mk _ rfl ⟨_,bC (ah b1' h0),af.mk _ rfl ⟨alone.a,alone.n,alone.c,by rw [aV hR1.blk];rfl,af.mk _ rfl ⟨_,bC (ah b1' h1),?_⟩⟩⟩;refine(iu w1 alone.a alone.n alone.c _ (gW s T) al1.r al1.n (by omega) i hi).mono ?_;rintro e w2 ⟨rfl,hw2⟩;rw [hw2];refine⟨_,rfl,ac.mk (fun ha=>?_) fun ha=>⟨?_,hV1,t1⟩⟩
 ·refine af.mk _ rfl ⟨_,bC (ah b1' h0),af.mk _ rfl ⟨alone.a,alone.n,alone.c,by rw [aV hR1.blk];rfl,?_⟩⟩;refine(iu w1 alone.a alone.n alone.c _ (gW s T) al1.r al1.n (by omega) k hk).mono ?_;rintro e w3 ⟨rfl,hw3⟩;rw [hw3];refine⟨_,rfl,ac.mk (fun hb=>?_) fun hb=>⟨?_,hV1,t1⟩⟩
  ·have hls:=LsAt.of_own fK hR1.oi;have hn:=hls.n;obtain⟨p,hp,c0⟩:=aZ hls.r hk rfl;refine af.mk _ rfl ⟨_,bC (ah b1' h2),af.mk _ rfl ⟨_,bC (ah b1' h3),af.mk _ rfl ⟨ids.a,ids.n,ids.c,bC (ah b1' h4),af.mk p hp ⟨by omega,by omega,_,c0,?_⟩⟩⟩⟩;rw [←fZ hk 0];refine(AI w1 v s T hV1 _ _ hA hB).mono ?_;rintro e w4 ⟨rfl,hV4,t4⟩;exact⟨_,rfl,rfl,hV4,t1.trans t4⟩
  ·cases hr:ct s T i k with
   |false=>rfl
   |true=>rw [(hpair hr).2]at hb;cases hb
 ·cases hr:ct s T i k with
  |false=>rfl
  |true=>rw [(hpair hr).1]at ha;cases ha
theorem en {w:World} {B:Nat} {e:TypeId} {sz n:Nat} {u:Value} {xs:List Value} (h:w.ownsRow B e sz u n xs) {κ:Type} [DecidableEq κ] {kv:κ→Value} {r:Nat} {m:List (κ×Value)} (hm:bv kv w r m):u.ownBlock≠some r:=by
 obtain⟨es,k,hk,_⟩:=hm;intro hb;rcases h.2 with⟨rfl,_⟩ |⟨g,cap,cur,rfl,_,hg,_⟩
 ·cases hb
 ·cases hb;rw [hk]at hg;cases hg
theorem El {q w1 w2:World} {x y u z:Value} {e e':TypeId} (h1:w1=q.alloc (.cells #[x] e)) (h2:w2=w1.alloc (.cells #[y] e')) (hu:u.oneCell'=true) (hz:z.oneCell'=true) {k:World→Prop} (hk:∀w4,w4.heap[q.heap.size]? =some (.cells #[u] e (0,0))→w4.heap[w1.heap.size]? =some (.cells #[z] e' (0,0))→Below q.heap.size q w4→k w4):
  u.oneCell'=true∧(∃a,w2.cell? (nb q)=some a)∧w2.frozen? (nb q)=false∧∀w3,w3=w2.setCell (nb q) u→z.oneCell'=true∧(∃a,w3.cell? (nb w1)=some a)∧w3.frozen? (nb w1)=false∧∀w4,w4=w3.setCell (nb w1) z→k w4:=by
 have b1:Below q.heap.size q w1:=by subst h1;exact ag _ _
 have a1:w1.heap[q.heap.size]? =some (.cells #[x] e (0,0)):=by subst h1;exact ak _ _
 have b2:Below w1.heap.size w1 w2:=by subst h2;exact ag _ _
 have a2:w2.heap[w1.heap.size]? =some (.cells #[y] e' (0,0)):=by subst h2;exact ak _ _
 have a12:=ah b2 a1;have hlt:q.heap.size<w1.heap.size:=(Array.getElem?_eq_some_iff.1 a1).1;have b02:=ae b1 b2;refine⟨hu,⟨_,aM a12⟩,bo a12,?_⟩;intro w3 h3;have a13:w3.heap[q.heap.size]? =some (.cells #[u] e (0,0)):=by subst h3;exact bD a12 u
 have a23:w3.heap[w1.heap.size]? =some (.cells #[y] e' (0,0)):=by subst h3;rw [aq (by show w1.heap.size≠q.heap.size;omega)];exact a2
 have b03:Below q.heap.size q w3:=by subst h3;exact b02.setCell (p:=nb q) (Nat.le_refl _) u
 refine⟨hz,⟨_,aM a23⟩,bo a23,?_⟩;intro w4 h4;refine hk w4 ?_ ?_ ?_
 ·subst h4;rw [aq (by show q.heap.size≠w1.heap.size;omega)];exact a13
 ·subst h4;exact bD a23 z
 ·subst h4;exact b03.setCell (p:=nb w1) (Nat.le_of_lt hlt) z
def Jh (w:World) (v:Nat) (s:ar) (T:List aP) (most:Int) (u:Value) (w':World):Prop:=bw w' v s T∧au v w w'∧(if(((bx s T).length*(bx s T).length:Nat):Int)>most then u= .tuple #[.pointer none,.int .i64 5]else ∃g,u= .tuple #[.pointer (some ⟨g,0,none⟩),.int .i64 0]∧rK w' g (bx s T) (gW s T) (ct s T)∧w.heap.size≤g)
set_option maxHeartbeats 2000000 in
theorem mz (w:World) (v:Nat) (s:ar) (T:List aP) (hV:bw w v s T) (hasc:(s.specials.map (·.1)).Pairwise (·< ·)) (most:Int):
  CP 32 #[.pointer (some ⟨v,0,none⟩),.int .i64 most] w fun e w'=>∃u,e= .returned u∧Jh w v s T most u w':=by
 refine BH (some ⟨v,0,none⟩) most w (Jh w v s T most) ?_;have hgb:256≤(bx s T).length∧(bx s T).length≤1032∧(∀t∈bx s T,(aK s T).Has t)∧(bx s T).Pairwise (·< ·):=by
  obtain⟨w0,x,tp,bp,mp,d,l,uses,hR⟩:=hV;have hP:=hR.now;exact⟨(qE hP.ok hP.right).1,(qE hP.ok hP.right).2,fun t ht=>(Hr hP t).1 ((mJ s T t).1 ht),kG hasc hP.ids⟩
 obtain⟨hg1,hg2,hgh,hgr⟩:=hgb;intro w1 hw1;have b1:Below w.heap.size w w1:=by subst hw1;exact ag _ _
 have l1:w1.heap[w.heap.size]? =some (.cells #[.pointer (some ⟨v,0,none⟩)] 69 (0,0)):=by subst hw1;exact ak _ _
 refine⟨_,bC l1,?_⟩;have hV1:=hV.on b1;refine(vE w1 v s T hV1 hasc).mono ?_;rintro e w2 ⟨ids,rfl,oids,b2⟩;refine⟨_,_,_,rfl,?_⟩;intro w3 hw3;refine gT hw3 rfl ?_;intro w4 l4 b4;have b24:=ae b2 b4;have b14:=ae b1 b24;have oids4:=bG (aE oids b4) (Nat.zero_le _);have hin:=(LsAt.of_own fK oids4).n;have l14:=ah b24 l1;have hV4:=hV.on b14;refine⟨_,bC l14,ac.no rfl ⟨ids.a,ids.n,ids.c,bC l4,ids.a,ids.n,ids.c,bC l4,Ar.nat ((bx s T).length*(bx s T).length) (by rw [hin];simp) (by
  have:(bx s T).length*(bx s T).length≤1032*1032:=Nat.mul_le_mul hg2 hg2;omega) (ac.mk (fun hm=>⟨hV4,au.of_below b14,?_⟩) fun hm=>?_)⟩⟩
 ·rw [if_pos (of_decide_eq_true hm)]
 have hm:=of_decide_eq_false hm;obtain⟨G,hG⟩:∃G,G=bx s T:=⟨_,rfl⟩;rw [←hG]at oids4 hin hg1 hg2 hgh hgr hm;obtain⟨n,hn⟩:∃n,n=G.length:=⟨_,rfl⟩;rw [←hn]at hin;refine⟨ids.a,ids.n,ids.c,bC l4,_,_,fo _,?_⟩;have b5:=ag w4 (.map #[] 0);have m5:bv ba (w4.alloc (.map #[] 0)) w4.heap.size (sx []):=iK w4;obtain⟨w5,hw5⟩:∃w5,w5=w4.alloc (.map #[] 0):=⟨_,rfl⟩;rw [←hw5]at b5 m5;rw [←hw5];intro w6 hw6 w7 hw7;have b6:Below w5.heap.size w5 w6:=by subst hw6;exact ag _ _
 have g6:w6.heap[w5.heap.size]? =some (.cells #[ids.v,.map (some w4.heap.size),bV.v,bV.v] rj (0,0)):=by subst hw6;exact ak _ _
 refine gT hw7 rfl ?_;intro w8 l8 b8;have b58:=ae b6 b8;have b48:=ae b5 b58;have b08:=ae b14 b48;have hz4:=b14.size;have hz5:=b5.size;have lt4:w4.heap.size<w5.heap.size:=m5.lt;have lt6:w5.heap.size<w6.heap.size:=(Array.getElem?_eq_some_iff.1 g6).1;have lt8:w6.heap.size<w8.heap.size:=(Array.getElem?_eq_some_iff.1 l8).1;have lt2:w2.heap.size<w4.heap.size:=(Array.getElem?_eq_some_iff.1 l4).1;have lt1:w.heap.size<w4.heap.size:=(Array.getElem?_eq_some_iff.1 l14).1;have hvl:=hV.lt;have boxes:∀ {q:World},Below (w4.heap.size) w8 q→q.heap[w.heap.size]? =some (.cells #[.pointer (some ⟨v,0,none⟩)] 69 (0,0))∧q.heap[w2.heap.size]? =some (.cells #[ids.v] d_ (0,0)):=by
  intro q hq;exact⟨Below.keeps hq lt1 (ah b48 l14),Below.keeps hq lt2 (ah b48 l4)⟩
 refine⟨ids.a,ids.n,ids.c,bC (ah b48 l4),?_⟩;have oids8:=aE oids4 b48;have idsLt:∀k,ids.v.ownBlock=some k→k<w4.heap.size:=fun k hk=>(b_ oids4 k hk).2;intro I hI;let Inv (i:Nat) (q:World):Prop:=bv ba q w4.heap.size (sx (G.take i))∧(∀j,j≠w4.heap.size→q.heap[j]? =w8.heap[j]?)∧q.heap.size=w8.heap.size∧Below w4.heap.size w4 q;have key:=aX (α:=World) n Inv (fun i q=>I [.int .i64 (i:Int)] q) w8 ⟨by rw [List.take_zero];exact m5.on b58,fun _ _=>rfl,rfl,b48⟩ ?_ ?_
 ·exact key
 ·rintro i hi ih q ⟨hmap,hs,hz,hB⟩;have hiG:i<G.length:=by omega
  have oq:q.ownsRow 0 bf 1 ids.v ids.n (G.flatMap aQ):=aN oids8 fun k hk=>hs k (by have:=idsLt k hk;omega);obtain⟨p,hp,c0⟩:=aZ (LsAt.of_own fK oq).r hiG rfl;have hlook:ez G[i] (sx (G.take i))=none:=by
   rw [tn,List.idxOf?_eq_none_iff.2]
   ·rfl
   ·intro hmem;obtain⟨j,hj,e⟩:=List.mem_take_iff_getElem.1 hmem;have:=List.pairwise_iff_getElem.1 hgr j i (by omega) hiG (by omega);omega
  obtain⟨q',hr',hm',hs',hz',hB'⟩:=e_ nl ny hmap G[i] (.int .i64 (i:Int)) hlook;refine hI _ _ (ac.yes (by simp;omega) (af.mk p hp ⟨by omega,by omega,_,c0,_,bC (by rw [hs w6.heap.size (by omega)];exact l8),af.mk _ rfl ⟨_,aj _ _ (by rw [hs w5.heap.size (by omega)];exact ah b8 g6) 1,q',hr',Ar.nat (i+1) rfl (by omega) (ih q' ⟨?_,fun j hj=>by rw [hs' j hj,hs j hj],by rw [hz',hz],hB' _ _ (Nat.le_refl _) hB⟩)⟩⟩));have e:sx (G.take (i+1))=sx (G.take i)++ [(G[i],.int .i64 (i:Int))]:=by
   rw [List.take_add_one,List.getElem?_eq_getElem hiG];have:=DF (G.take i) G[i];rw [List.length_take,Nat.min_eq_left (by omega)]at this;exact this
  rw [e];exact hm'
 ·rintro q ⟨hmap,hs,hz,hB⟩;rw [List.take_of_length_le (by omega)]at hmap;refine hI _ _ (ac.no (by simp;omega) ?_);intro w11 hw11;have b11:Below q.heap.size q w11:=by subst hw11;exact aO q
  have hq8:Below w4.heap.size w8 q:=⟨by rw [hB.os, ←b48.os],by rw [hB.tape, ←b48.tape],by rw [hB.output, ←b48.output],by rw [hz];exact Nat.le_refl _,fun k hk=>hs k (by omega)⟩;have hq8':Below w4.heap.size w8 w11:=hq8.trans (b11.mono (by have:=hq8.size;omega));have hV11:bw w11 v s T:=(hV4.on b5 |> fun h5=>(hV4.on ⟨hB.os,hB.tape,hB.output,hB.size,hB.block⟩)).on b11;have t11:au v w w11:=(au.of_below b14).trans (au.of_below (hB.trans (b11.mono hB.size)));have g11:=ah b11 (show q.heap[w5.heap.size]? =some (.cells #[ids.v,.map (some w4.heap.size),bV.v,bV.v] rj (0,0)) by rw [hs _ (by omega)];exact ah b8 g6);have lg11:=ah b11 (show q.heap[w6.heap.size]? =_ by rw [hs _ (by omega)];exact l8);have bx11:=boxes hq8';have m11:=hmap.on b11;have o11:w11.ownsRow 0 bf 1 ids.v ids.n (G.flatMap aQ):=aE (aN oids8 fun k hk=>hs k (by have:=idsLt k hk;omega)) b11;subst hG;have bxL:w.heap.size<w11.heap.size∧w2.heap.size<w11.heap.size∧w6.heap.size<w11.heap.size∧w5.heap.size<w11.heap.size:=⟨(Array.getElem?_eq_some_iff.1 bx11.1).1,(Array.getElem?_eq_some_iff.1 bx11.2).1,(Array.getElem?_eq_some_iff.1 lg11).1,(Array.getElem?_eq_some_iff.1 g11).1⟩;have sz2:w.heap.size≤w2.heap.size:=Nat.le_trans b1.size b2.size;refine⟨_,bC lg11,ids.a,ids.n,ids.c,bC bx11.2,?_⟩;refine(sT w11 ids.n _ (fun i=>gW s T i) v s T hV11 (by omega) ?_).mono ?_
  ·intro i hi q hVq tq;refine bT (by kernel_rfl) ?_;exact Dw q v s T hVq w.heap.size w2.heap.size ids (bx s T) (tq.held (by omega) bx11.1) (tq.held (by omega) bx11.2) (hV11.own_touch tq o11 (by decide)) hgh i (by omega)
  rintro e w12 ⟨al,rfl,oal,hV12,t12⟩;rw [hin,hn]at oal;have lg12:=t12.held (by omega) lg11;have g12:=t12.held (by omega) g11;have x12:=t12.held (by omega) bx11.1;have y12:=t12.held (by omega) bx11.2;have o12:=hV11.own_touch t12 o11 (by decide);have m12:=m11.same (t12.block _ m11.lt (by omega));refine⟨al.a,al.n,al.c,rfl,⟨bC lg12,trivial⟩,af.mk _ rfl ⟨rfl,⟨_,by rw [aV g12];rfl⟩,be g12,?_⟩⟩;intro w13 hw13;have g13:w13.heap[w5.heap.size]? =some (.cells #[ids.v,.map (some w4.heap.size),bV.v,al.v] rj (0,0)):=by subst hw13;exact bL g12 _
  have hs13:∀j,j≠w5.heap.size→w13.heap[j]? =w12.heap[j]? :=by
   intro j hj;subst hw13;exact aq (by rw [ax];exact hj)
  have hV13:bw w13 v s T:=by subst hw13;exact hV12.put g12 (by decide) (by omega) _
  have t13:au v w w13:=by subst hw13;exact(t11.trans t12).put (by omega) _
  have lg13:w13.heap[w6.heap.size]? =_:=(hs13 _ (by omega)).trans lg12;have x13:w13.heap[w.heap.size]? =_:=(hs13 _ (by omega)).trans x12;have y13:w13.heap[w2.heap.size]? =_:=(hs13 _ (by omega)).trans y12;have hR13:kI w13 w5.heap.size (bx s T) (gW s T) (ct s T) ids bV al w4.heap.size [] 0:=
   ⟨g13,aN o12 fun k hk=>hs13 k fun e=>az o12 g12 (by decide) (by rw [hk,e]),m12.same (hs13 _ (by omega)),cS _ _ _ _ ro,rfl,(by intro i r h;cases h),aN (bG oal (Nat.zero_le _)) fun k hk=>hs13 k fun e=>az oal g12 (by decide) (by rw [hk,e])⟩
  refine⟨ids.a,ids.n,ids.c,bC y13,?_⟩;intro I2 hI2;let Inv2 (i:Nat) (q:World):Prop:=∃rows rs,kI q w5.heap.size (bx s T) (gW s T) (ct s T) ids rows al w4.heap.size rs i∧q.ownsRow w.heap.size mY 1 rows.v rows.n (rs.flatMap ro)∧bw q v s T∧au v w q∧q.heap[w6.heap.size]? =some (.cells #[.pointer (some (nb w5))] 32 (0,0))∧q.heap[w.heap.size]? =some (.cells #[.pointer (some ⟨v,0,none⟩)] 69 (0,0))∧q.heap[w2.heap.size]? =some (.cells #[ids.v] d_ (0,0));have key2:=aX (α:=World) n Inv2 (fun i q=>I2 [.int .i64 (i:Int)] q) w13 ⟨bV,[],hR13,cS _ _ _ _ ro,hV13,t13,lg13,x13,y13⟩ ?_ ?_
  ·exact key2
  ·rintro i hi ih z ⟨rows,rs,hR,orow,hVz,tz,lgz,xz,yz⟩;have hiG:i< (bx s T).length:=by omega
   have zb:w.heap.size<z.heap.size∧w2.heap.size<z.heap.size∧w6.heap.size<z.heap.size∧w5.heap.size<z.heap.size:=⟨(Array.getElem?_eq_some_iff.1 xz).1,(Array.getElem?_eq_some_iff.1 yz).1,(Array.getElem?_eq_some_iff.1 lgz).1,(Array.getElem?_eq_some_iff.1 hR.blk).1⟩;have hlz:=LsAt.of_own fK hR.oi;obtain⟨p,hp,c0⟩:=aZ hlz.r hiG rfl;have hnz:=hlz.n;refine hI2 _ _ (ac.yes (by simp;omega) (af.mk p hp ⟨by omega,by omega,_,c0,?_⟩));intro w15 hw15 w16 hw16;refine El hw15 hw16 rfl rfl ?_;intro w18 bi18 ba18 b18;have zs15:z.heap.size<w15.heap.size:=by subst hw15;rw [av];omega
   intro w19 hw19;have b19':Below w18.heap.size w18 w19:=by subst hw19;exact aO w18
   have b19:=ae b18 b19';have bi19:=ah b19' bi18;have ba19:=ah b19' ba18;have hR19:=hR.on b19;have hV19:=hVz.on b19;have lg19:=ah b19 lgz;have x19:=ah b19 xz;have y19:=ah b19 yz;have or19:=aE orow b19;have t19:au v w w19:=tz.then_off b19 tz.size;refine⟨_,bC lg19,_,bC lg19,af.mk _ rfl ⟨rows.a,rows.n,rows.c,by rw [aV hR19.blk];rfl,ids.a,ids.n,ids.c,bC y19,?_⟩⟩;refine(sT w19 ids.n _ (fun k=>ct s T i k) v s T hV19 (by omega) ?_).mono ?_
   ·intro k hk q hVq tq;refine bT (by kernel_rfl) ?_;refine DE q v s T hVq w6.heap.size z.heap.size w.heap.size w15.heap.size w2.heap.size w5.heap.size ids rows al w4.heap.size rs i i k ⟨by omega,by omega,by omega,by omega,by omega⟩ (hR19.touch hV19 tq) hgh hg2 (tq.held (by omega) lg19) (tq.held (by omega) bi19) (tq.held (by omega) x19) (tq.held (by omega) (by rw [fZ hiG];exact ba19)) (tq.held (by omega) y19) hiG (by omega)
   rintro e w20 ⟨r,rfl,orw,hV20,t20⟩;rw [hin,hn]at orw;have hR20:=hR19.touch hV19 t20;have lg20:=t20.held (by omega) lg19;have x20:=t20.held (by omega) x19;have y20:=t20.held (by omega) y19;have or20:=hV19.own_touch t20 or19 (by decide);refine⟨r.a,r.n,r.c,rfl,⟨by rw [aV hR20.blk];rfl,trivial⟩,⟨bC lg20,trivial⟩,⟨bC lg20,trivial⟩,?_⟩;intro w21 hw21;have b21:Below w20.heap.size w20 w21:=by subst hw21;exact ag _ _
   have lg21:=ah b21 lg20;have wb:w.heap.size≤w20.heap.size:=(t19.trans t20).size;obtain⟨rows',w22,hn22,hrun,own22,hB22,hk22⟩:=Ew.push or20 r hw21 rfl wb (by have:=(LsAt.of_own Ew or20).n;have:=hR.rl;omega) (by decide);refine⟨⟨by rw [aV (ah b21 hR20.blk)];rfl,trivial⟩,⟨bC lg21,trivial⟩,⟨bC lg21,trivial⟩,rows'.a,rows'.n,rows'.c,w22,hrun,?_⟩;have kp:∀ {k:Nat} {o:Obj},w20.heap[k]? =some o→rows.v.ownBlock≠some k→w22.heap[k]? =some o:=fun {k o} h hne=>(hk22 k (Array.getElem?_eq_some_iff.1 h).1 hne).trans h;have lg22:=kp lg20 (az or20 lg20 (by decide));have x22:=kp x20 (az or20 x20 (by decide));have y22:=kp y20 (az or20 y20 (by decide));have g22:=kp hR20.blk (az or20 hR20.blk (by decide));have B22:=hB22 w20 (Below.refl _ _);have hV22:=hV20.growE B22 hvl or20 (by decide) hk22;have t22:au v w w22:=(t19.trans t20).then_off B22 (Nat.le_refl _);refine⟨⟨bC lg22,trivial⟩,af.mk _ rfl ⟨rfl,⟨_,by rw [aV g22];rfl⟩,be g22,?_⟩⟩;intro w23 hw23;have hs23:∀j,j≠w5.heap.size→w23.heap[j]? =w22.heap[j]? :=by
    intro j hj;subst hw23;exact aq (by rw [ax];exact hj)
   have same:∀ {B sz n:Nat} {e:TypeId} {u:Value} {xs:List Value},w20.ownsRow B e sz u n xs→e≠mY→e≠rj→w23.ownsRow B e sz u n xs:=by
    intro B sz n e u xs h h1 h2;refine aN h fun k hk=>?_;rw [hs23 k fun e=>az h hR20.blk h2 (by rw [hk,e])];exact hk22 k (b_ h k hk).2 (bW h or20 h1 k hk)
   have own23:w23.ownsRow w.heap.size mY 1 rows'.v rows'.n ((rs++ [r]).flatMap ro):=aN own22 fun k hk=>hs23 k fun e=>az own22 g22 (by decide) (by rw [hk,e]);refine Ar.nat (i+1) rfl (by omega) (ih w23 ⟨rows',rs++ [r],?_,own23,?_,?_,(hs23 _ (by omega)).trans lg22,(hs23 _ (by omega)).trans x22,(hs23 _ (by omega)).trans y22⟩)
   ·refine⟨by subst hw23;exact bL g22 _,same hR20.oi (by decide) (by decide),?_,bG own23 (Nat.zero_le _),by have:=hR.rl;simp;omega,?_,same hR20.oal (by decide) (by decide)⟩
    ·exact hR20.map.same ((hs23 _ (by omega)).trans (hk22 _ hR20.map.lt (en or20 hR20.map)))
    ·intro j r' hj;have hrl:=hR.rl;by_cases h:j<rs.length
     ·rw [List.getElem?_append_left h]at hj;exact same (hR20.each j r' hj) (by decide) (by decide)
     ·have hji:j=i:=by
       have:=(List.getElem?_eq_some_iff.1 hj).1;simp at this;omega
      subst hji;rw [List.getElem?_append_right (by omega),hrl,Nat.sub_self]at hj;cases hj;exact same (bG orw (Nat.zero_le _)) (by decide) (by decide)
   ·subst hw23;exact hV22.put g22 (by decide) (by omega) _
   ·subst hw23;exact t22.put (by omega) _
  ·rintro z ⟨rows,rs,hR,orow,hVz,tz,lgz,xz,yz⟩;rw [hn]at hR;refine hI2 _ _ (ac.no (by simp;omega) ⟨_,bC lgz,hVz,tz,?_⟩);rw [if_neg (by have:=hm;rw [hn]at*;omega)];exact⟨w5.heap.size,rfl,⟨ids,rows,al,w4.heap.size,rs,hR⟩,by omega⟩
def cnt:Nat→Nat→Nat
 |0,_=>0
 |k+1,x=>x%2+cnt k (x/2)
def s1 (x:Nat):Nat:=(x/2&&&6148914691236517205)+(x&&&6148914691236517205)
def s2 (x:Nat):Nat:=(x/4&&&3689348814741910323)+(x&&&3689348814741910323)
def s3 (x:Nat):Nat:=x/16+x
def s4 (x:Nat):Nat:=(x&&&1085102592571150095)+(x&&&1085102592571150095)/256
def s5 (x:Nat):Nat:=x+x/65536
theorem O' (x k:Nat) (hk:k≤64):Int.fdiv (x:Int) (2^(min (k:Int).toNat (IntKind.bits .u64)))=((x/2^k:Nat):Int):=by
 show Int.fdiv (x:Int) (2^(min k 64))=_;rw [Nat.min_eq_left hk,Int.fdiv_eq_ediv_of_nonneg _ (Int.pow_nonneg (by decide))];simp
theorem LK (x m:Nat) (hx:x<2^64) (hm:m<2^64):IntKind.wrap .u64 ((BitVec.ofInt (IntKind.bits .u64) (x:Int)&&&BitVec.ofInt (IntKind.bits .u64) (m:Int)).toNat:Int)=((x&&&m:Nat):Int):=by
 show IntKind.wrap .u64 ((BitVec.ofInt 64 (x:Int)&&&BitVec.ofInt 64 (m:Int)).toNat:Int)=_;rw [BitVec.toNat_and,fQ _ hx,fQ _ hm];exact jl _ (Nat.lt_of_le_of_lt Nat.and_le_left hx)
abbrev ja (w:World) (g:Nat) (s:ar) (T:List aP):Prop:=rK w g (bx s T) (gW s T) (ct s T)
def oM (s:ar) (T:List aP) (id:Int):Option Nat:=(bx s T).idxOf? id
theorem BX {l:List Int} {a:Int} {i:Nat} (h:l.idxOf? a=some i):∃h:i<l.length,l[i]=a:=by
 have:=List.findIdx?_eq_some_iff_getElem.1 h;obtain⟨h1,h2,_⟩:=this;exact⟨h1,by simpa using h2⟩
theorem dp {s:ar} {T:List aP} {id:Int} {i:Nat} (h:oM s T id=some i):i< (bx s T).length∧(bx s T).getD i 0=id∧fM s T id=true:=by
 obtain⟨h1,h2⟩:=BX h;exact⟨h1,by rw [fZ h1];exact h2,(mJ s T id).1 (by rw [←h2];exact List.getElem_mem h1)⟩
theorem wx {s:ar} {T:List aP} {id:Int} (h:oM s T id=none):fM s T id=false:=by
 have h1:=List.idxOf?_eq_none_iff.1 h;cases hh:fM s T id with
 |false=>rfl
 |true=>exact absurd ((mJ s T id).2 hh) h1
theorem qb {s:ar} {T:List aP} (id:Int):(oM s T id).isSome=fM s T id:=by
 cases h:oM s T id with
 |none=>exact(wx h).symm
 |some i=>exact(dp h).2.2.symm
def K5 (s:ar) (T:List aP) (id:Int):Bool:=fM s T id&&decide ((aK s T).Canon [id])
def DU (s:ar) (T:List aP) (a b:Int):Bool:=fM s T a&&fM s T b&&decide ((aK s T).Canon [a,b])
theorem LX:(Tryz.prog.info? bf).map (·.zero)=some (some (.int .i64 0)):=by kernel_rfl
theorem gp (w:World) (g:Nat) (s:ar) (T:List aP) (h:ja w g s T) (id:Int):
  CP 20 #[.pointer (some ⟨g,0,none⟩),.int .i64 id] w fun e w'=>e= .returned (.tuple #[.int .i64 (((oM s T id).getD 0:Nat):Int),.bool (oM s T id).isSome])∧w'=w:=by
 refine aL (Bb (some ⟨g,0,none⟩) id w) ?_;obtain⟨ids,rows,alone,mb,rs,hR⟩:=h;refine ac.no rfl (af.mk _ rfl ⟨some mb,by rw [aV hR.blk];rfl,?_⟩);have hl:=fH nl ny LX hR.map id;rw [tn]at hl;have e:((((bx s T).idxOf? id).map fun i:Nat=>Value.int .i64 (i:Int)).getD (.int .i64 0))= .int .i64 (((oM s T id).getD 0:Nat):Int):=by
  show _=Value.int .i64 ((((bx s T).idxOf? id).getD 0:Nat):Int);cases(bx s T).idxOf? id<;>rfl
 rw [e,Option.isSome_map]at hl;exact⟨_,_,w,hl,rfl,rfl⟩
theorem oN (w:World) (g:Nat) (s:ar) (T:List aP) (h:ja w g s T) (hn:(bx s T).length≤1032) (id:Int):
  CP 90 #[.pointer (some ⟨g,0,none⟩),.int .i64 id] w fun e w'=>e= .returned (.bool (K5 s T id))∧w'=w:=by
 refine aL (AY (some ⟨g,0,none⟩) id w) ?_;refine(gp w g s T h id).mono ?_;rintro e w1 ⟨rfl,rfl⟩;obtain⟨ids,rows,alone,mb,rs,hR⟩:=h;refine⟨_,_,rfl,ac.mk (fun h1=>?_) fun h1=>⟨?_,rfl⟩⟩
 ·obtain⟨i,hi⟩:=Option.isSome_iff_exists.1 h1;obtain⟨hi1,hi2,hi3⟩:=dp hi;have al1:=LsAt.of_own qZ hR.oal;refine af.mk _ rfl ⟨alone.a,alone.n,alone.c,by rw [aV hR.blk];rfl,?_⟩;rw [hi];refine(iu w1 alone.a alone.n alone.c _ (gW s T) al1.r al1.n (by omega) i hi1).mono ?_;rintro e w2 ⟨rfl,rfl⟩;refine⟨_,rfl,?_,rfl⟩;unfold K5 gW;rw [hi2,hi3,Bool.true_and]
 ·rw [qb]at h1;unfold K5;rw [h1,Bool.false_and]
theorem CC {s:ar} {T:List aP} {w:World} {g:Nat} {ids rows alone:Sl} {mb:Nat} {rs:List Sl} (hR:kI w g (bx s T) (gW s T) (ct s T) ids rows alone mb rs (bx s T).length) (i:Nat) (hi:i< (bx s T).length):∃(p:Addr) (r:Sl),rows.a=some p∧i<rows.n∧w.cell? (p.add (i*1))=some (.slice r.a r.n r.c)∧LsAt dd 1 w r (bu (bx s T).length (ct s T i)):=by
 have hls:=LsAt.of_own Ew hR.orows;have hl:=hR.rl;have hi2:i<rs.length:=by omega
 obtain⟨p,hp,c0⟩:=aZ hls.r hi2 (v:=rs[i].v) rfl;exact⟨p,rs[i],hp,by rw [hls.n];exact hi2,c0,LsAt.of_own qZ (hR.each i _ (List.getElem?_eq_getElem hi2))⟩
theorem Dj (w:World) (g:Nat) (s:ar) (T:List aP) (h:ja w g s T) (hn:(bx s T).length≤1032) (a b:Int):
  CP 91 #[.pointer (some ⟨g,0,none⟩),.int .i64 a,.int .i64 b] w fun e w'=>e= .returned (.bool (DU s T a b))∧w'=w:=by
 refine aL (Cn (some ⟨g,0,none⟩) a b w) ?_;refine(gp w g s T h a).mono ?_;rintro e w1 ⟨rfl,rfl⟩;refine⟨_,_,rfl,(gp w1 g s T h b).mono ?_⟩;rintro e w2 ⟨rfl,rfl⟩;obtain⟨ids,rows,alone,mb,rs,hR⟩:=h;refine⟨_,_,rfl,ac.mk (fun h1=>ac.mk (fun h2=>?_) fun h2=>⟨?_,rfl⟩) fun h1=>⟨?_,rfl⟩⟩
 ·obtain⟨i,hi⟩:=Option.isSome_iff_exists.1 h1;obtain⟨hi1,hi2,hi3⟩:=dp hi;obtain⟨j,hj⟩:=Option.isSome_iff_exists.1 h2;obtain⟨hj1,hj2,hj3⟩:=dp hj;obtain⟨p,r,hp,hin,hc,hls⟩:=CC hR i hi1;rw [hi,hj];refine af.mk _ rfl ⟨rows.a,rows.n,rows.c,by rw [aV hR.blk];rfl,af.mk p hp ⟨by omega,by show((i:Nat):Int) <_;omega,r.a,r.n,r.c,hc,?_⟩⟩;refine(iu w2 r.a r.n r.c _ (ct s T i) hls.r hls.n (by omega) j hj1).mono ?_;rintro e w2 ⟨rfl,rfl⟩;refine⟨_,rfl,?_,rfl⟩;unfold DU ct;rw [hi2,hi3,hj2,hj3,Bool.true_and,Bool.true_and]
 ·rw [qb]at h2;unfold DU;rw [h2,Bool.and_false,Bool.false_and]
 ·rw [qb]at h1;unfold DU;rw [h1,Bool.false_and,Bool.false_and]
theorem dt (w:World) (g:Nat) (s:ar) (T:List aP) (h:ja w g s T):
  CP 19 #[.pointer (some ⟨g,0,none⟩)] w fun e w'=>e= .returned (.int .i64 (((bx s T).length:Nat):Int))∧w'=w:=by
 refine aL (Cv (some ⟨g,0,none⟩) w) ?_;obtain⟨ids,rows,alone,mb,rs,hR⟩:=h;refine ac.no rfl (af.mk _ rfl ⟨ids.a,ids.n,ids.c,by rw [aV hR.blk];rfl,?_,rfl⟩);rw [(LsAt.of_own fK hR.oi).n]
theorem zy (w:World) (g:Nat) (s:ar) (T:List aP) (h:ja w g s T) (place:Int):
  CP 38 #[.pointer (some ⟨g,0,none⟩),.int .i64 place] w fun e w'=>e= .returned (if 0≤place∧place< ((bx s T).length:Int)then .tuple #[.int .i64 ((bx s T).getD place.toNat 0),.bool true]else .tuple #[.int .i64 0,.bool false])∧w'=w:=by
 refine aR (AR (some ⟨g,0,none⟩) place w (fun u w'=>u=(if 0≤place∧place< ((bx s T).length:Int)then .tuple #[.int .i64 ((bx s T).getD place.toNat 0),.bool true]else .tuple #[.int .i64 0,.bool false])∧w'=w) ?_) (by rintro v w' ⟨rfl,h⟩;exact⟨rfl,h⟩);refine ac.mk (fun h1=>⟨?_,rfl⟩) fun h1=>?_
 ·rw [if_neg (by have:=of_decide_eq_true h1;omega)]
 have h1:=of_decide_eq_false h1;refine(dt w g s T h).mono ?_;rintro e w1 ⟨rfl,rfl⟩;refine⟨_,rfl,ac.mk (fun h2=>⟨?_,rfl⟩) fun h2=>?_⟩
 ·rw [if_neg (by have:=of_decide_eq_true h2;omega)]
 have h2:=of_decide_eq_false h2;obtain⟨ids,rows,alone,mb,rs,hR⟩:=h;obtain⟨i,rfl⟩:∃i:Nat,place=i:=⟨place.toNat,by omega⟩;have hi:i< (bx s T).length:=by omega
 have hls:=LsAt.of_own fK hR.oi;obtain⟨p,hp,c0⟩:=aZ hls.r hi rfl;have:=hls.n;refine af.mk _ rfl ⟨ids.a,ids.n,ids.c,by rw [aV hR.blk];rfl,af.mk p hp ⟨by omega,by omega,_,c0,?_,rfl⟩⟩;rw [if_pos ⟨by omega,by omega⟩];show _=Value.tuple #[.int .i64 ((bx s T).getD i 0),.bool true];rw [fZ hi]
theorem yD (w:World) (a:Option Addr) (c:Nat) (xs:List Int) (hr:Rw dd 1 w a xs) (hl:xs.length≤1000000000):
  CP 162 #[.slice a xs.length c] w fun e w'=>∃s:Sl,e= .returned s.v∧s.n=xs.length∧w'.ownsRow w.heap.size gH 1 s.v s.n (xs.flatMap dd)∧Below w.heap.size w w':=by
 refine aL (yY a xs.length c w) ?_;refine ac.mk (fun h0=>?_) fun h0=>?_
 ·have hx:xs= []:=by
   cases xs with
   |nil=>rfl
   |cons x t=>
    obtain⟨p,hp,_⟩:=hr 0 x rfl;rw [hp]at h0;cases h0
  subst hx;exact⟨⟨none,0,0⟩,rfl,rfl,cP _ _ _ _,Below.refl _ _⟩
 ·obtain⟨p,rfl⟩:∃p,a=some p:=by
   cases a with
   |none=>cases h0
   |some p=>exact⟨p,rfl⟩
  intro w1 hw1;obtain⟨A,C,w2,h2,h3,h4⟩:=jh (enc:=dd) (sz:=1) (fun _=>rfl) (by decide) (fun x u hu=>by rw [List.mem_singleton.1 hu];rfl) mY gH BD tV rfl w ⟨some p,xs.length,c⟩ xs (.inr ⟨p,rfl⟩) hr rfl (by simp only;omega) (by simp only;omega) w1 hw1;exact⟨A,xs.length,C,w2,h2,⟨A,xs.length,C⟩,rfl,rfl,h3,h4⟩
theorem DM (w:World) (g:Nat) (s:ar) (T:List aP) (h:ja w g s T) (hn:(bx s T).length≤1032) (id:Int):
  CP 103 #[.pointer (some ⟨g,0,none⟩),.int .i64 id] w fun e w'=>Below w.heap.size w w'∧((oM s T id=none∧e= .returned (.slice none 0 0))∨∃i l,oM s T id=some i∧e= .returned (Sl.v l)∧w'.ownsRow w.heap.size gH 1 l.v l.n ((bu (bx s T).length (ct s T i)).flatMap dd)):=by
 refine aR (vm (some ⟨g,0,none⟩) id w (fun u w'=>Below w.heap.size w w'∧((oM s T id=none∧u= .slice none 0 0)∨∃i l,oM s T id=some i∧u=Sl.v l∧w'.ownsRow w.heap.size gH 1 l.v l.n ((bu (bx s T).length (ct s T i)).flatMap dd))) ?_) (by rintro v w' ⟨h1,⟨h2,rfl⟩ |⟨i,l,h2,rfl,h3⟩⟩;exact⟨h1,.inl ⟨h2,rfl⟩⟩;exact⟨h1,.inr ⟨i,l,h2,rfl,h3⟩⟩);refine(gp w g s T h id).mono ?_;rintro e w1 ⟨rfl,rfl⟩;obtain⟨ids,rows,alone,mb,rs,hR⟩:=h;refine⟨_,_,rfl,ac.mk (fun h1=>⟨Below.refl _ _,.inl ⟨?_,rfl⟩⟩) fun h1=>?_⟩
 ·cases hp:oM s T id with
  |none=>rfl
  |some i=>rw [hp]at h1;cases h1
 ·obtain⟨i,hi⟩:=Option.isSome_iff_exists.1 (by simpa using h1);obtain⟨hi1,hi2,hi3⟩:=dp hi;obtain⟨p,r,hp,hin,hc,hls⟩:=CC hR i hi1;rw [hi];refine af.mk _ rfl ⟨rows.a,rows.n,rows.c,by rw [aV hR.blk];rfl,af.mk p hp ⟨by omega,by show((i:Nat):Int) <_;omega,r.a,r.n,r.c,hc,?_⟩⟩;rw [hls.n];refine(yD w1 r.a r.c _ hls.r (by rw [cK];omega)).mono ?_;rintro e w2 ⟨l,rfl,hl,ho,b2⟩;exact⟨l.a,l.n,l.c,rfl,b2,.inr ⟨i,l,rfl,rfl,ho⟩⟩
def qd (V:Voc) (ids:List Int):Option Nat→Prop
 |none=>∀(i:Nat) (h:i<ids.length),V.Has ids[i]∧V.Canon (ids.take (i+1))
 |some k=>(∀(i:Nat) (h:i<ids.length),i<k→V.Has ids[i]∧V.Canon (ids.take (i+1)))∧∃h:k<ids.length,¬(V.Has ids[k]∧V.Canon (ids.take (k+1)))
theorem kb {s:ar} {T:List aP} (hok:gz T) (t:Int):fM s T t=true↔(aK s T).Has t:=by
 unfold fM;rw [decide_eq_true_eq,iw hok];exact Or.comm
theorem KR (w w1:World) (xs:List Int) (c:Array Value) (hc:c=(xs.map fun n=>Value.int .i64 n).toArray) (hw1:w1=w.alloc (.cells c bf)):Rw aQ 1 w1 (some (nb w)) xs:=by
 intro j x hj;have l1:w1.heap[w.heap.size]? =some (.cells c bf (0,0)):=by subst hw1;exact ak _ _
 refine⟨nb w,rfl,(Array.getElem?_eq_some_iff.1 l1).1,fun k v hk=>?_⟩
 match k,hk with
 |0,hk=>
  cases hk;rw [ay,Nat.mul_one,aj _ _ l1,hc];simp [hj]
theorem GN {w:World} {v:Nat} {y:sP} {s:ar} {T:List aP} (h:B8 w v y s T):(bx s T).length≤1006∧(((bx s T).length*(bx s T).length:Nat):Int)≤1048576:=by
 have h1:=h.now.ok.most;have h2:=h.few;have h3:=h.ids;have hT:T.length≤1000:=h1;have hl:(bx s T).length≤1006:=by rw [ew];omega
 refine⟨hl,?_⟩;have:(bx s T).length*(bx s T).length≤1006*1006:=Nat.mul_le_mul hl hl;omega
open Go Go.Value
def Pw (a:OA) (b c:Nat) (d:OA) (f g:Nat) (h:OA) (i j:Nat) (k:OA) (l m:Nat) (n:Int) (w:World) (R:RW):Prop:=
 ∀o,o=w.alloc (.cells #[slice a b c,slice d f g,slice h i j,slice k l m] 27)→
 ∃p q r s t u x y z a1 b1 c1,(o.cell? (nb w)=some (slice p q r)∧o.cell? ((nb w).add 1)=some (slice s t u)∧o.cell? ((nb w).add 2)=some (slice x y z)∧o.cell? ((nb w).add 3)=some (slice a1 b1 c1)∧True)∧
 CP 11 #[agg #[slice p q r,slice s t u,slice x y z,slice a1 b1 c1]] o (fun d1 e1=>
 ∃f1,d1= .returned (int .i64 f1)∧
 ac (decide (f1>0))
 (CP 35 #[] e1 (fun g1 h1=>
 ∃i1,g1= .returned (bool i1)∧
 R (bool i1) h1))
 (CP 35 #[] e1 (fun j1 k1=>
 ∃l1,j1= .returned (bool l1)∧
 ac (!l1)
 (CP 35 #[] k1 (fun m1 n1=>
 ∃o1,m1= .returned (bool o1)∧
 R (bool o1) n1))
 (∃p1 q1 r1 s1 t1 u1 v1 x1 y1 z1 a2 b2,(k1.cell? (nb w)=some (slice p1 q1 r1)∧k1.cell? ((nb w).add 1)=some (slice s1 t1 u1)∧k1.cell? ((nb w).add 2)=some (slice v1 x1 y1)∧k1.cell? ((nb w).add 3)=some (slice z1 a2 b2)∧True)∧
 CP 36 #[agg #[slice p1 q1 r1,slice s1 t1 u1,slice v1 x1 y1,slice z1 a2 b2],int .i64 5] k1 (fun c2 d2=>
 ∃e2 f2 g2 h2 i2 j2 k2 l2 m2 n2 o2 p2 q2 r2 s2 t2 u2 v2,c2= .returned (tuple #[pointer e2,pointer f2,pointer g2,agg #[slice h2 i2 j2,slice k2 l2 m2,slice n2 o2 p2,slice q2 r2 s2,slice t2 u2 v2]])∧
 ∀x2,x2=d2.alloc (.cells #[slice none 0 0,slice none 0 0,slice none 0 0,slice none 0 0,slice none 0 0] 40)→
 aB x2 (nb d2) (fun y2=>
 ac (Option.isNone e2)
 (R (bool false) y2)
 ((3:Int)≠0∧
 CP 45 #[pointer e2,int .i64 (IntKind.wrap .i64 (Int.tmod n 3))] y2 (fun z2 a3=>
 ∃b3 c3 d3,z2= .returned (agg #[slice b3 c3 d3])∧
 CP 46 #[agg #[slice b3 c3 d3]] a3 (fun e3 f3=>
 ∃g3,e3= .returned (string g3)∧
 CP 48 #[pointer g2,int .i64 (IntKind.wrap .i64 (Int.tmod n 3))] f3 (fun h3 i3=>
 ∃j3 k3 l3,h3= .returned (slice j3 k3 l3)∧
 CP 47 #[slice j3 k3 l3] i3 (fun m3 n3=>
 ∃o3,m3= .returned (string o3)∧
 ac (g3.toList==o3.toList)
 (CP 41 #[pointer e2,int .i64 0,int .i64 (IntKind.wrap .i64 (Int.tmod n 3))] n3 (fun p3 q3=>
 ∃r3 s3 t3,p3= .returned (agg #[slice r3 s3 t3])∧
 CP 45 #[pointer e2,int .i64 (IntKind.wrap .i64 (Int.tmod n 3))] q3 (fun u3 v3=>
 ∃x3 y3 z3,u3= .returned (agg #[slice x3 y3 z3])∧
 CP 42 #[agg #[slice r3 s3 t3],agg #[slice x3 y3 z3]] v3 (fun a4 b4=>
 ∃c4,a4= .returned (int .i64 c4)∧
 ac (c4==0)
 (CP 37 #[pointer f2] b4 (fun d4 e4=>
 ∃f4,d4= .returned (int .i64 f4)∧
 CP 41 #[pointer e2,int .i64 f4,int .i64 (IntKind.wrap .i64 (Int.tmod n 3))] e4 (fun g4 h4=>
 ∃i4 j4 k4,g4= .returned (agg #[slice i4 j4 k4])∧
 CP 43 #[agg #[slice i4 j4 k4]] h4 (fun l4 m4=>
 ∃n4,l4= .returned (bool n4)∧
 ac n4
 (CP 45 #[pointer e2,int .i64 (-1)] m4 (fun o4 p4=>
 ∃q4 r4 s4,o4= .returned (agg #[slice q4 r4 s4])∧
 CP 43 #[agg #[slice q4 r4 s4]] p4 (fun t4 u4=>
 ∃v4,t4= .returned (bool v4)∧
 ac v4
 (CP 45 #[pointer e2,int .i64 6] u4 (fun x4 y4=>
 ∃z4 a5 b5,x4= .returned (agg #[slice z4 a5 b5])∧
 CP 43 #[agg #[slice z4 a5 b5]] y4 (fun c5 d5=>
 ∃e5,c5= .returned (bool e5)∧
 R (bool e5) d5)))
 (R (bool false) u4))))
 (R (bool false) m4)))))
 (R (bool false) b4)))))
 (R (bool false) n3))))))) [slice h2 i2 j2,slice k2 l2 m2,slice n2 o2 p2,slice q2 r2 s2,slice t2 u2 v2] 0)))))
theorem DB (a:OA) (b c:Nat) (d:OA) (f g:Nat) (h:OA) (i j:Nat) (k:OA) (l m:Nat) (n:Int) (w:World) (R:RW) (hh:Pw a b c d f g h i j k l m n w R):CR 7 #[agg #[slice a b c,slice d f g,slice h i j,slice k l m],int .u8 n] w R:=
 aD (fn:=Tryz.f7) (by kernel_rfl) (by kernel_rfl) (by kernel_rfl) (by kernel_rfl) (by kernel_rfl) hh
def Pk (w:World) (R:RW):Prop:=
 CP 31 #[agg #[bool false,slice none 0 0,slice none 0 0,slice none 0 0,slice none 0 0,slice none 0 0]] w (fun a b=>
 ∃c d f,a= .returned (tuple #[pointer c,int .i64 d,int .i64 f])∧
 CP 32 #[pointer c,int .i64 1048576] b (fun g h=>
 ∃i j,g= .returned (tuple #[pointer i,int .i64 j])∧
 CP 54 #[pointer i,int .i64 1048576] h (fun k l=>
 ∃m n,k= .returned (tuple #[pointer m,int .i64 n])∧
 CP 56 #[pointer m] l (fun o p=>
 ∃q,o= .returned (pointer q)∧
 CP 55 #[pointer q,pointer i,int .i64 3] p (fun r s=>
 ∃t x,r= .returned (tuple #[pointer t,int .i64 x])∧
 ∀y,y=s.alloc (.cells #[int .i64 97,int .i64 98] 3)→
 CP 51 #[pointer t,slice (some (nb s)) 2 2] y (fun z a1=>
 ∃b1 c1 d1 e1,z= .returned (tuple #[agg #[slice b1 c1 d1],int .i64 e1])∧
 ∀f1,f1=a1.alloc (.cells #[slice none 0 0] 88)→
 (slice b1 c1 d1).oneCell'=true∧(∃u,f1.cell? (nb a1)=some u)∧f1.frozen? (nb a1)=false∧
 ∀g1,g1=(f1.setCell (nb a1) (slice b1 c1 d1))→
 ac (x==0)
 (CP 45 #[pointer t,int .i64 2] g1 (fun h1 i1=>
 ∃j1 k1 l1,h1= .returned (agg #[slice j1 k1 l1])∧
 CP 46 #[agg #[slice j1 k1 l1]] i1 (fun m1 n1=>
 ∃o1,m1= .returned (string o1)∧
 ac (o1.toList==(⟨#[54,53,53,51,54]⟩:ByteArray).toList)
 (∃p1 q1 r1,(n1.cell? (nb a1)=some (slice p1 q1 r1)∧True)∧
 CP 46 #[agg #[slice p1 q1 r1]] n1 (fun s1 t1=>
 ∃u1,s1= .returned (string u1)∧
 ac (u1.toList==(⟨#[50,52,57,51,48]⟩:ByteArray).toList)
 (R (bool (e1==0)) t1)
 (R (bool false) t1)))
 (R (bool false) n1))))
 (R (bool false) g1)))))))
theorem Bt (w:World) (R:RW) (hh:Pk w R):CR 35 #[] w R:=
 aD (fn:=Tryz.f35) (by kernel_rfl) (by kernel_rfl) (by kernel_rfl) (by kernel_rfl) (by kernel_rfl) hh
def Oz (a:OA) (b c:Nat) (d:OA) (f g:Nat) (h:OA) (i j:Nat) (k:OA) (l m:Nat) (n:Int) (w:World) (R:RW):Prop:=
 ∀o,o=w.alloc (.cells #[slice a b c,slice d f g,slice h i j,slice k l m] 27)→
 ∀p,p=o.alloc (.cells #[slice none 0 0,slice none 0 0,slice none 0 0,slice none 0 0,slice none 0 0] 40)→
 ∃q r s t u x y z a1 b1 c1 d1,(p.cell? (nb w)=some (slice q r s)∧p.cell? ((nb w).add 1)=some (slice t u x)∧p.cell? ((nb w).add 2)=some (slice y z a1)∧p.cell? ((nb w).add 3)=some (slice b1 c1 d1)∧True)∧
 CP 58 #[agg #[slice q r s,slice t u x,slice y z a1,slice b1 c1 d1]] p (fun e1 f1=>
 ∃g1 h1 i1 j1 k1 l1 m1 n1 o1 p1 q1 r1 s1 t1 u1 v1,e1= .returned (tuple #[pointer g1,agg #[slice h1 i1 j1,slice k1 l1 m1,slice n1 o1 p1,slice q1 r1 s1,slice t1 u1 v1]])∧
 ∀x1,x1=f1.alloc (.cells #[slice none 0 0,slice none 0 0,slice none 0 0,slice none 0 0,slice none 0 0] 40)→
 aB x1 (nb f1) (fun y1=>
 CP 32 #[pointer g1,int .i64 1048576] y1 (fun z1 a2=>
 ∃b2 c2,z1= .returned (tuple #[pointer b2,int .i64 c2])∧
 CP 54 #[pointer b2,int .i64 1048576] a2 (fun d2 e2=>
 ∃f2 g2,d2= .returned (tuple #[pointer f2,int .i64 g2])∧
 CP 56 #[pointer f2] e2 (fun h2 i2=>
 ∃j2,h2= .returned (pointer j2)∧
 CP 55 #[pointer j2,pointer b2,int .i64 n] i2 (fun k2 l2=>
 ∃m2 n2,k2= .returned (tuple #[pointer m2,int .i64 n2])∧
 ac (c2 != 0)
 (∀o2,o2=l2.drew→
 ∃p2 q2 r2 s2 t2 u2 v2 x2 y2 z2 a3 b3 c3 d3 e3,(o2.cell? (nb f1)=some (slice p2 q2 r2)∧o2.cell? ((nb f1).add 1)=some (slice s2 t2 u2)∧o2.cell? ((nb f1).add 2)=some (slice v2 x2 y2)∧o2.cell? ((nb f1).add 3)=some (slice z2 a3 b3)∧o2.cell? ((nb f1).add 4)=some (slice c3 d3 e3)∧True)∧
 aB o2 (nb o) (fun f3=>
 ∃g3 h3 i3 j3 k3 l3 m3 n3 o3 p3 q3 r3 s3 t3 u3,(f3.cell? (nb o)=some (slice g3 h3 i3)∧f3.cell? ((nb o).add 1)=some (slice j3 k3 l3)∧f3.cell? ((nb o).add 2)=some (slice m3 n3 o3)∧f3.cell? ((nb o).add 3)=some (slice p3 q3 r3)∧f3.cell? ((nb o).add 4)=some (slice s3 t3 u3)∧True)∧
 R (tuple #[pointer none,pointer none,pointer none,agg #[slice g3 h3 i3,slice j3 k3 l3,slice m3 n3 o3,slice p3 q3 r3,slice s3 t3 u3]]) f3) [slice p2 q2 r2,slice s2 t2 u2,slice v2 x2 y2,slice z2 a3 b3,slice c3 d3 e3] 0)
 (ac (g2 != 0)
 (∀v3,v3=l2.drew→
 ∃x3 y3 z3 a4 b4 c4 d4 e4 f4 g4 h4 i4 j4 k4 l4,(v3.cell? (nb f1)=some (slice x3 y3 z3)∧v3.cell? ((nb f1).add 1)=some (slice a4 b4 c4)∧v3.cell? ((nb f1).add 2)=some (slice d4 e4 f4)∧v3.cell? ((nb f1).add 3)=some (slice g4 h4 i4)∧v3.cell? ((nb f1).add 4)=some (slice j4 k4 l4)∧True)∧
 aB v3 (nb o) (fun m4=>
 ∃n4 o4 p4 q4 r4 s4 t4 u4 v4 x4 y4 z4 a5 b5 c5,(m4.cell? (nb o)=some (slice n4 o4 p4)∧m4.cell? ((nb o).add 1)=some (slice q4 r4 s4)∧m4.cell? ((nb o).add 2)=some (slice t4 u4 v4)∧m4.cell? ((nb o).add 3)=some (slice x4 y4 z4)∧m4.cell? ((nb o).add 4)=some (slice a5 b5 c5)∧True)∧
 R (tuple #[pointer none,pointer none,pointer none,agg #[slice n4 o4 p4,slice q4 r4 s4,slice t4 u4 v4,slice x4 y4 z4,slice a5 b5 c5]]) m4) [slice x3 y3 z3,slice a4 b4 c4,slice d4 e4 f4,slice g4 h4 i4,slice j4 k4 l4] 0)
 (ac (n2 != 0)
 (∀d5,d5=l2.drew→
 ∃e5 f5 g5 h5 i5 j5 k5 l5 m5 n5 o5 p5 q5 r5 s5,(d5.cell? (nb f1)=some (slice e5 f5 g5)∧d5.cell? ((nb f1).add 1)=some (slice h5 i5 j5)∧d5.cell? ((nb f1).add 2)=some (slice k5 l5 m5)∧d5.cell? ((nb f1).add 3)=some (slice n5 o5 p5)∧d5.cell? ((nb f1).add 4)=some (slice q5 r5 s5)∧True)∧
 aB d5 (nb o) (fun t5=>
 ∃u5 v5 x5 y5 z5 a6 b6 c6 d6 e6 f6 g6 h6 i6 j6,(t5.cell? (nb o)=some (slice u5 v5 x5)∧t5.cell? ((nb o).add 1)=some (slice y5 z5 a6)∧t5.cell? ((nb o).add 2)=some (slice b6 c6 d6)∧t5.cell? ((nb o).add 3)=some (slice e6 f6 g6)∧t5.cell? ((nb o).add 4)=some (slice h6 i6 j6)∧True)∧
 R (tuple #[pointer none,pointer none,pointer none,agg #[slice u5 v5 x5,slice y5 z5 a6,slice b6 c6 d6,slice e6 f6 g6,slice h6 i6 j6]]) t5) [slice e5 f5 g5,slice h5 i5 j5,slice k5 l5 m5,slice n5 o5 p5,slice q5 r5 s5] 0)
 (∀k6,k6=l2.drew→
 ∃l6 m6 n6 o6 p6 q6 r6 s6 t6 u6 v6 x6 y6 z6 a7,(k6.cell? (nb f1)=some (slice l6 m6 n6)∧k6.cell? ((nb f1).add 1)=some (slice o6 p6 q6)∧k6.cell? ((nb f1).add 2)=some (slice r6 s6 t6)∧k6.cell? ((nb f1).add 3)=some (slice u6 v6 x6)∧k6.cell? ((nb f1).add 4)=some (slice y6 z6 a7)∧True)∧
 CP 56 #[pointer f2] k6 (fun b7 c7=>
 ∃d7,b7= .returned (pointer d7)∧
 (c7.cell? (nb f1)=some (slice l6 m6 n6)∧c7.cell? ((nb f1).add 1)=some (slice o6 p6 q6)∧c7.cell? ((nb f1).add 2)=some (slice r6 s6 t6)∧c7.cell? ((nb f1).add 3)=some (slice u6 v6 x6)∧c7.cell? ((nb f1).add 4)=some (slice y6 z6 a7)∧True)∧
 aB c7 (nb o) (fun e7=>
 ∃f7 g7 h7 i7 j7 k7 l7 m7 n7 o7 p7 q7 r7 s7 t7,(e7.cell? (nb o)=some (slice f7 g7 h7)∧e7.cell? ((nb o).add 1)=some (slice i7 j7 k7)∧e7.cell? ((nb o).add 2)=some (slice l7 m7 n7)∧e7.cell? ((nb o).add 3)=some (slice o7 p7 q7)∧e7.cell? ((nb o).add 4)=some (slice r7 s7 t7)∧True)∧
 R (tuple #[pointer m2,pointer d7,pointer b2,agg #[slice f7 g7 h7,slice i7 j7 k7,slice l7 m7 n7,slice o7 p7 q7,slice r7 s7 t7]]) e7) [slice l6 m6 n6,slice o6 p6 q6,slice r6 s6 t6,slice u6 v6 x6,slice y6 z6 a7] 0))))))))) [slice h1 i1 j1,slice k1 l1 m1,slice n1 o1 p1,slice q1 r1 s1,slice t1 u1 v1] 0)
theorem Bl (a:OA) (b c:Nat) (d:OA) (f g:Nat) (h:OA) (i j:Nat) (k:OA) (l m:Nat) (n:Int) (w:World) (R:RW) (hh:Oz a b c d f g h i j k l m n w R):CR 36 #[agg #[slice a b c,slice d f g,slice h i j,slice k l m],int .i64 n] w R:=
 aD (fn:=Tryz.f36) (by kernel_rfl) (by kernel_rfl) (by kernel_rfl) (by kernel_rfl) (by kernel_rfl) hh
def OE (a:OA) (b c:Nat) (d:OA) (f g:Nat) (w:World) (R:RW):Prop:=
 ∀h,h=w.alloc (.cells #[slice a b c] 88)→
 ∀i,i=h.alloc (.cells #[slice none 0 0] 88)→
 ∀j:KW,(∀(k:Int) (l:World),(ac (decide (k< (f:Int)))
 (af d (fun m=>
 (0:Int)≤k∧k< (f:Int)∧
 ∃n o p,(l.cell? (m.add (k.toNat*1))=some (slice n o p)∧True)∧
 ∀q,q=l.alloc (.cells #[slice none 0 0] 88)→
 (slice n o p).oneCell'=true∧(∃u,q.cell? (nb l)=some u)∧q.frozen? (nb l)=false∧
 ∀r,r=(q.setCell (nb l) (slice n o p))→
 ∃s t x,(r.cell? (nb w)=some (slice s t x)∧True)∧
 ∃y z a1,(r.cell? (nb l)=some (slice y z a1)∧True)∧
 CP 82 #[agg #[slice s t x],agg #[slice y z a1]] r (fun b1 c1=>
 ∃d1 e1 f1,b1= .returned (agg #[slice d1 e1 f1])∧
 (slice d1 e1 f1).oneCell'=true∧(∃u,c1.cell? (nb w)=some u)∧c1.frozen? (nb w)=false∧
 ∀g1,g1=(c1.setCell (nb w) (slice d1 e1 f1))→
 Ar .i64 (k+1) (fun h1=>
 j [int .i64 h1] g1))))
 (∃i1 j1 k1,(l.cell? (nb w)=some (slice i1 j1 k1)∧True)∧
 (slice i1 j1 k1).oneCell'=true∧(∃u,l.cell? (nb h)=some u)∧l.frozen? (nb h)=false∧
 ∀l1,l1=(l.setCell (nb h) (slice i1 j1 k1))→
 ∃m1 n1 o1,(l1.cell? (nb h)=some (slice m1 n1 o1)∧True)∧
 R (agg #[slice m1 n1 o1]) l1))→j [int .i64 k] l)→
 j [int .i64 0] i
theorem B4 (a:OA) (b c:Nat) (d:OA) (f g:Nat) (w:World) (R:RW) (hh:OE a b c d f g w R):CR 40 #[agg #[slice a b c],slice d f g] w R:=
 aD (fn:=Tryz.f40) (by kernel_rfl) (by kernel_rfl) (by kernel_rfl) (by kernel_rfl) (by kernel_rfl) hh
def O3 (a:OA) (b c:Int) (w:World) (R:RW):Prop:=
 ∀d,d=w.alloc (.cells #[slice none 0 0] 88)→
 ac (Option.isNone a)
 ((slice none 0 0).oneCell'=true∧(∃u,d.cell? (nb w)=some u)∧d.frozen? (nb w)=false∧
 ∀f,f=(d.setCell (nb w) (slice none 0 0))→
 ∃g h i,(f.cell? (nb w)=some (slice g h i)∧True)∧
 R (agg #[slice g h i]) f)
 (ac (decide (c<0))
 ((slice none 0 0).oneCell'=true∧(∃u,d.cell? (nb w)=some u)∧d.frozen? (nb w)=false∧
 ∀j,j=(d.setCell (nb w) (slice none 0 0))→
 ∃k l m,(j.cell? (nb w)=some (slice k l m)∧True)∧
 R (agg #[slice k l m]) j)
 (af a (fun n=>
 ∃o,d.cell? (n.add 2)=some (int .i64 o)∧
 ac (decide (c>o))
 ((slice none 0 0).oneCell'=true∧(∃u,d.cell? (nb w)=some u)∧d.frozen? (nb w)=false∧
 ∀p,p=(d.setCell (nb w) (slice none 0 0))→
 ∃q r s,(p.cell? (nb w)=some (slice q r s)∧True)∧
 R (agg #[slice q r s]) p)
 (ac (decide (b<0))
 ((slice none 0 0).oneCell'=true∧(∃u,d.cell? (nb w)=some u)∧d.frozen? (nb w)=false∧
 ∀t,t=(d.setCell (nb w) (slice none 0 0))→
 ∃x y z,(t.cell? (nb w)=some (slice x y z)∧True)∧
 R (agg #[slice x y z]) t)
 (af a (fun a1=>
 ∃b1,d.cell? (a1.add 0)=some (pointer b1)∧
 CP 37 #[pointer b1] d (fun c1 d1=>
 ∃e1,c1= .returned (int .i64 e1)∧
 ac (decide (b≥e1))
 ((slice none 0 0).oneCell'=true∧(∃u,d1.cell? (nb w)=some u)∧d1.frozen? (nb w)=false∧
 ∀f1,f1=(d1.setCell (nb w) (slice none 0 0))→
 ∃g1 h1 i1,(f1.cell? (nb w)=some (slice g1 h1 i1)∧True)∧
 R (agg #[slice g1 h1 i1]) f1)
 (af a (fun j1=>
 CP 83 #[pointer (some ((j1.add 3).add 0)),func (.func 84) #[pointer a] #[]] d1 (fun k1 l1=>
 k1= .returned (tuple #[])∧
 af a (fun m1=>
 ∃n1 o1 p1,l1.cell? ((m1.add 3).add 3)=some (slice n1 o1 p1)∧
 af n1 (fun q1=>
 (0:Int)≤c∧c< (o1:Int)∧
 ∃r1 s1 t1,l1.cell? (q1.add (c.toNat*1))=some (slice r1 s1 t1)∧
 af r1 (fun u1=>
 (0:Int)≤b∧b< (s1:Int)∧
 ∃v1 x1 y1,(l1.cell? (u1.add (b.toNat*1))=some (slice v1 x1 y1)∧True)∧
 (slice v1 x1 y1).oneCell'=true∧(∃u,l1.cell? (nb w)=some u)∧l1.frozen? (nb w)=false∧
 ∀z1,z1=(l1.setCell (nb w) (slice v1 x1 y1))→
 ∃a2 b2 c2,(z1.cell? (nb w)=some (slice a2 b2 c2)∧True)∧
 R (agg #[slice a2 b2 c2]) z1)))))))))))))
theorem Cr (a:OA) (b c:Int) (w:World) (R:RW) (hh:O3 a b c w R):CR 41 #[pointer a,int .i64 b,int .i64 c] w R:=
 aD (fn:=Tryz.f41) (by kernel_rfl) (by kernel_rfl) (by kernel_rfl) (by kernel_rfl) (by kernel_rfl) hh
def OP (a:OA) (b c:Nat) (d:OA) (f g:Nat) (w:World) (R:RW):Prop:=
 ∀h,h=w.alloc (.cells #[slice a b c] 88)→
 ∀i,i=h.alloc (.cells #[slice d f g] 88)→
 ∃j k l,i.cell? ((nb w).add 0)=some (slice j k l)∧
 ∃m n o,i.cell? ((nb h).add 0)=some (slice m n o)∧
 CP 85 #[int .i64 (k:Int),int .i64 (n:Int)] i (fun p q=>
 ∃r,p= .returned (int .i64 r)∧
 ac (r != 0)
 (R (int .i64 r) q)
 (∃s t u,q.cell? ((nb w).add 0)=some (slice s t u)∧
 Ar .i64 ((t:Int)-1) (fun x=>
 ∀y:KW,(∀(z a1:Int) (b1:World),(ac (decide (z≥0))
 (∀c1,c1=b1.drew→
 ∃d1 e1 f1,c1.cell? ((nb w).add 0)=some (slice d1 e1 f1)∧
 af d1 (fun g1=>
 (0:Int)≤z∧z< (e1:Int)∧
 ∃h1,c1.cell? (g1.add (z.toNat*1))=some (int .u32 h1)∧
 ∃i1 j1 k1,c1.cell? ((nb h).add 0)=some (slice i1 j1 k1)∧
 af i1 (fun l1=>
 (0:Int)≤z∧z< (j1:Int)∧
 ∃m1,c1.cell? (l1.add (z.toNat*1))=some (int .u32 m1)∧
 CP 86 #[int .u32 h1,int .u32 m1] c1 (fun n1 o1=>
 ∃p1,n1= .returned (int .i64 p1)∧
 ac (p1 != 0)
 (R (int .i64 p1) o1)
 (Ar .i64 (z-1) (fun q1=>
 y [int .i64 q1,int .i64 a1] o1))))))
 (R (int .i64 0) b1))→y [int .i64 z,int .i64 a1] b1)→
 y [int .i64 x,int .i64 0] q)))
theorem BN (a:OA) (b c:Nat) (d:OA) (f g:Nat) (w:World) (R:RW) (hh:OP a b c d f g w R):CR 42 #[agg #[slice a b c],agg #[slice d f g]] w R:=
 aD (fn:=Tryz.f42) (by kernel_rfl) (by kernel_rfl) (by kernel_rfl) (by kernel_rfl) (by kernel_rfl) hh
def OO (a:OA) (b c:Nat) (w:World) (R:RW):Prop:=
 ∀d,d=w.alloc (.cells #[slice a b c] 88)→
 ∃f g h,d.cell? ((nb w).add 0)=some (slice f g h)∧
 R (bool ((g:Int)==0)) d
theorem AW (a:OA) (b c:Nat) (w:World) (R:RW) (hh:OO a b c w R):CR 43 #[agg #[slice a b c]] w R:=
 aD (fn:=Tryz.f43) (by kernel_rfl) (by kernel_rfl) (by kernel_rfl) (by kernel_rfl) (by kernel_rfl) hh
def Pe (a:OA) (b:Int) (w:World) (R:RW):Prop:=
 ∀c,c=w.alloc (.cells #[slice none 0 0] 88)→
 CP 41 #[pointer a,int .i64 0,int .i64 b] c (fun d f=>
 ∃g h i,d= .returned (agg #[slice g h i])∧
 (slice g h i).oneCell'=true∧(∃u,f.cell? (nb w)=some u)∧f.frozen? (nb w)=false∧
 ∀j,j=(f.setCell (nb w) (slice g h i))→
 ∃k l m,(j.cell? (nb w)=some (slice k l m)∧True)∧
 R (agg #[slice k l m]) j)
theorem B6 (a:OA) (b:Int) (w:World) (R:RW) (hh:Pe a b w R):CR 45 #[pointer a,int .i64 b] w R:=
 aD (fn:=Tryz.f45) (by kernel_rfl) (by kernel_rfl) (by kernel_rfl) (by kernel_rfl) (by kernel_rfl) hh
def On (a:OA) (b c:Nat) (w:World) (R:RW):Prop:=
 ∀d,d=w.alloc (.cells #[slice a b c] 88)→
 ∃f g h,(d.cell? (nb w)=some (slice f g h)∧True)∧
 CP 43 #[agg #[slice f g h]] d (fun i j=>
 ∃k,i= .returned (bool k)∧
 ac k
 (R (string ⟨#[48]⟩) j)
 (∀l:KW,(∀(m:OA) (n o:Nat) (p:World),(∃q r s,(p.cell? (nb w)=some (slice q r s)∧True)∧
 CP 43 #[agg #[slice q r s]] p (fun t x=>
 ∃y,t= .returned (bool y)∧
 ac (!y)
 (∃z a1 b1,(x.cell? (nb w)=some (slice z a1 b1)∧True)∧
 CP 87 #[agg #[slice z a1 b1],int .u32 1000000000] x (fun c1 d1=>
 ∃e1 f1 g1 h1,c1= .returned (tuple #[agg #[slice e1 f1 g1],int .u32 h1])∧
 ∀i1,i1=d1.alloc (.cells #[slice none 0 0] 88)→
 (slice e1 f1 g1).oneCell'=true∧(∃u,i1.cell? (nb d1)=some u)∧i1.frozen? (nb d1)=false∧
 ∀j1,j1=(i1.setCell (nb d1) (slice e1 f1 g1))→
 ∀k1:KW,(∀(l1 m1:Int) (n1:OA) (o1 p1:Nat) (q1:World),(ac (decide (l1<9))
 (ac (decide (m1>0))
 ((10:Int)≠0∧
 Ar .u32 ((48:Int)+(Int.tmod m1 10)) (fun r1=>
 ∀s1,s1=q1.alloc (.cells #[int .u8 (IntKind.wrap .u8 r1)] 5)→
 ∃t1 u1 v1 x1,(Builtin.append_ #[97,97] 97 #[slice n1 o1 p1,slice (some (nb q1)) 1 1]).run Tryz.prog s1= .ok (slice t1 u1 v1) x1∧
 (10:Int)≠0∧
 Ar .i64 (l1+1) (fun y1=>
 k1 [int .i64 y1,int .u32 (IntKind.wrap .u32 (Int.tdiv m1 10)),slice t1 u1 v1] x1)))
 (∃z1 a2 b2,(q1.cell? (nb d1)=some (slice z1 a2 b2)∧True)∧
 CP 43 #[agg #[slice z1 a2 b2]] q1 (fun c2 d2=>
 ∃e2,c2= .returned (bool e2)∧
 ac (!e2)
 ((10:Int)≠0∧
 Ar .u32 ((48:Int)+(Int.tmod m1 10)) (fun f2=>
 ∀g2,g2=d2.alloc (.cells #[int .u8 (IntKind.wrap .u8 f2)] 5)→
 ∃h2 i2 j2 k2,(Builtin.append_ #[97,97] 97 #[slice n1 o1 p1,slice (some (nb d2)) 1 1]).run Tryz.prog g2= .ok (slice h2 i2 j2) k2∧
 (10:Int)≠0∧
 Ar .i64 (l1+1) (fun l2=>
 k1 [int .i64 l2,int .u32 (IntKind.wrap .u32 (Int.tdiv m1 10)),slice h2 i2 j2] k2)))
 (∃m2 n2 o2,(d2.cell? (nb d1)=some (slice m2 n2 o2)∧True)∧
 (slice m2 n2 o2).oneCell'=true∧(∃u,d2.cell? (nb w)=some u)∧d2.frozen? (nb w)=false∧
 ∀p2,p2=(d2.setCell (nb w) (slice m2 n2 o2))→
 l [slice n1 o1 p1] p2))))
 (∃q2 r2 s2,(q1.cell? (nb d1)=some (slice q2 r2 s2)∧True)∧
 (slice q2 r2 s2).oneCell'=true∧(∃u,q1.cell? (nb w)=some u)∧q1.frozen? (nb w)=false∧
 ∀t2,t2=(q1.setCell (nb w) (slice q2 r2 s2))→
 l [slice n1 o1 p1] t2))→k1 [int .i64 l1,int .u32 m1,slice n1 o1 p1] q1)→
 k1 [int .i64 0,int .u32 h1,slice m n o] j1))
 (CP 88 #[slice m n o] x (fun u2 v2=>
 u2= .returned (tuple #[])∧
 ∃x2 y2,(convert 97 9 (slice m n o)).run Tryz.prog v2= .ok (string x2) y2∧
 R (string x2) y2))))→l [slice m n o] p)→
 l [slice none 0 0] j))
theorem Ak (a:OA) (b c:Nat) (w:World) (R:RW) (hh:On a b c w R):CR 46 #[agg #[slice a b c]] w R:=
 aD (fn:=Tryz.f46) (by kernel_rfl) (by kernel_rfl) (by kernel_rfl) (by kernel_rfl) (by kernel_rfl) hh
def Pc (a:OA) (b c:Nat) (w:World) (R:RW):Prop:=
 ∀d:KW,(∀(f:Int) (g:ByteArray) (h:World),(ac (decide (f< (b:Int)))
 (af a (fun i=>
 (0:Int)≤f∧f< (b:Int)∧
 ∃j,h.cell? (i.add (f.toNat*1))=some (int .u8 j)∧
 Ar .u8 ((48:Int)+j) (fun k=>
 ∀l,l=h.alloc (.cells #[int .u8 k] 5)→
 ∃m n,(convert 97 9 (slice (some (nb h)) 1 1)).run Tryz.prog l= .ok (string m) n∧
 ((m.size+g.size:Nat):Int)≤IntKind.i64.max∧
 Ar .i64 (f+1) (fun o=>
 d [int .i64 o,string (m++g)] n))))
 (ac (g.toList==(⟨#[]⟩:ByteArray).toList)
 (R (string ⟨#[48]⟩) h)
 (R (string g) h)))→d [int .i64 f,string g] h)→
 d [int .i64 0,string ⟨#[]⟩] w
theorem BY (a:OA) (b c:Nat) (w:World) (R:RW) (hh:Pc a b c w R):CR 47 #[slice a b c] w R:=
 aD (fn:=Tryz.f47) (by kernel_rfl) (by kernel_rfl) (by kernel_rfl) (by kernel_rfl) (by kernel_rfl) hh
def OG (a:OA) (b:Int) (w:World) (R:RW):Prop:=
 ac (b==0)
 (CP 89 #[int .u64 1] w (fun c d=>
 ∃f g h,c= .returned (slice f g h)∧
 R (slice f g h) d))
 (CP 19 #[pointer a] w (fun i j=>
 ∃k,i= .returned (int .i64 k)∧
 ∃l m n o,(Instr.makeSlice 180 (int .i64 k) (int .i64 k)).run Tryz.prog j= .ok (slice l m n) o∧
 ∀p:KW,(∀(q:Int) (r:OA) (s t:Nat) (x:World),(ac (decide (q<b))
 (CP 19 #[pointer a] x (fun y z=>
 ∃a1,y= .returned (int .i64 a1)∧
 ∃b1 c1 d1 e1,(Instr.makeSlice 180 (int .i64 a1) (int .i64 a1)).run Tryz.prog z= .ok (slice b1 c1 d1) e1∧
 ∀f1:KW,(∀(g1:Int) (h1:World),(CP 19 #[pointer a] h1 (fun i1 j1=>
 ∃k1,i1= .returned (int .i64 k1)∧
 ac (decide (g1<k1))
 (∀l1:KW,(∀m1:World,(Ar .i64 (g1+1) (fun n1=>
 f1 [int .i64 n1] m1))→l1 [] m1)→
 CP 38 #[pointer a,int .i64 g1] j1 (fun o1 p1=>
 ∃q1 r1,o1= .returned (tuple #[int .i64 q1,bool r1])∧
 ac (q==0)
 (∀s1:KW,(∀t1:World,(l1 [] t1)→s1 [] t1)→
 CP 90 #[pointer a,int .i64 q1] p1 (fun u1 v1=>
 ∃x1,u1= .returned (bool x1)∧
 ac x1
 (CP 89 #[int .u64 1] v1 (fun y1 z1=>
 ∃a2 b2 c2,y1= .returned (slice a2 b2 c2)∧
 af b1 (fun d2=>
 (0:Int)≤g1∧g1< (c1:Int)∧
 (slice a2 b2 c2).oneCell'=true∧(∃u,z1.cell? (d2.add (g1.toNat*1))=some u)∧z1.frozen? (d2.add (g1.toNat*1))=false∧
 ∀e2,e2=(z1.setCell (d2.add (g1.toNat*1)) (slice a2 b2 c2))→
 s1 [] e2)))
 (s1 [] v1)))
 (∀f2:KW,(∀(g2:Int) (h2:World),(CP 19 #[pointer a] h2 (fun i2 j2=>
 ∃k2,i2= .returned (int .i64 k2)∧
 ac (decide (g2<k2))
 (∀l2:KW,(∀m2:World,(Ar .i64 (g2+1) (fun n2=>
 f2 [int .i64 n2] m2))→l2 [] m2)→
 CP 38 #[pointer a,int .i64 g2] j2 (fun o2 p2=>
 ∃q2 r2,o2= .returned (tuple #[int .i64 q2,bool r2])∧
 CP 91 #[pointer a,int .i64 q2,int .i64 q1] p2 (fun s2 t2=>
 ∃u2,s2= .returned (bool u2)∧
 ac u2
 (∀v2,v2=t2.drew→
 af b1 (fun x2=>
 (0:Int)≤g1∧g1< (c1:Int)∧
 ∃y2 z2 a3,v2.cell? (x2.add (g1.toNat*1))=some (slice y2 z2 a3)∧
 af r (fun b3=>
 (0:Int)≤g2∧g2< (s:Int)∧
 ∃c3 d3 e3,v2.cell? (b3.add (g2.toNat*1))=some (slice c3 d3 e3)∧
 CP 92 #[slice y2 z2 a3,slice c3 d3 e3] v2 (fun f3 g3=>
 ∃h3 i3 j3,f3= .returned (slice h3 i3 j3)∧
 af b1 (fun k3=>
 (0:Int)≤g1∧g1< (c1:Int)∧
 (slice h3 i3 j3).oneCell'=true∧(∃u,g3.cell? (k3.add (g1.toNat*1))=some u)∧g3.frozen? (k3.add (g1.toNat*1))=false∧
 ∀l3,l3=(g3.setCell (k3.add (g1.toNat*1)) (slice h3 i3 j3))→
 l2 [] l3)))))
 (l2 [] t2))))
 (l1 [] j2)))→f2 [int .i64 g2] h2)→
 f2 [int .i64 0] p1)))
 (Ar .i64 (q+1) (fun m3=>
 p [int .i64 m3,slice b1 c1 d1] j1))))→f1 [int .i64 g1] h1)→
 f1 [int .i64 0] e1))
 (∀n3:KW,(∀(o3:Int) (p3:OA) (q3 r3:Nat) (s3:World),(ac (decide (o3< (s:Int)))
 (af r (fun t3=>
 (0:Int)≤o3∧o3< (s:Int)∧
 ∃u3 v3 x3,s3.cell? (t3.add (o3.toNat*1))=some (slice u3 v3 x3)∧
 CP 92 #[slice p3 q3 r3,slice u3 v3 x3] s3 (fun y3 z3=>
 ∃a4 b4 c4,y3= .returned (slice a4 b4 c4)∧
 Ar .i64 (o3+1) (fun d4=>
 n3 [int .i64 d4,slice a4 b4 c4] z3))))
 (R (slice p3 q3 r3) s3))→n3 [int .i64 o3,slice p3 q3 r3] s3)→
 n3 [int .i64 0,slice none 0 0] x))→p [int .i64 q,slice r s t] x)→
 p [int .i64 0,slice l m n] o))
theorem Cc (a:OA) (b:Int) (w:World) (R:RW) (hh:OG a b w R):CR 48 #[pointer a,int .i64 b] w R:=
 aD (fn:=Tryz.f48) (by kernel_rfl) (by kernel_rfl) (by kernel_rfl) (by kernel_rfl) (by kernel_rfl) hh
def O1 (a b:OA) (c d:Nat) (w:World) (R:RW):Prop:=
 ∀f,f=w.alloc (.cells #[slice none 0 0] 88)→
 ac (Option.isNone a)
 ((slice none 0 0).oneCell'=true∧(∃u,f.cell? (nb w)=some u)∧f.frozen? (nb w)=false∧
 ∀g,g=(f.setCell (nb w) (slice none 0 0))→
 ∃h i j,(g.cell? (nb w)=some (slice h i j)∧True)∧
 R (tuple #[agg #[slice h i j],int .i64 1]) g)
 (af a (fun k=>
 ∃l,f.cell? (k.add 2)=some (int .i64 l)∧
 ac (decide ((c:Int)>l))
 ((slice none 0 0).oneCell'=true∧(∃u,f.cell? (nb w)=some u)∧f.frozen? (nb w)=false∧
 ∀m,m=(f.setCell (nb w) (slice none 0 0))→
 ∃n o p,(m.cell? (nb w)=some (slice n o p)∧True)∧
 R (tuple #[agg #[slice n o p],int .i64 3]) m)
 (af a (fun q=>
 ∃r,f.cell? (q.add 0)=some (pointer r)∧
 CP 98 #[pointer r,slice b c d] f (fun s t=>
 ∃x y,s= .returned (tuple #[int .i64 x,bool y])∧
 ac (!y)
 ((slice none 0 0).oneCell'=true∧(∃u,t.cell? (nb w)=some u)∧t.frozen? (nb w)=false∧
 ∀z,z=(t.setCell (nb w) (slice none 0 0))→
 ∃a1 b1 c1,(z.cell? (nb w)=some (slice a1 b1 c1)∧True)∧
 R (tuple #[agg #[slice a1 b1 c1],int .i64 4]) z)
 (af a (fun d1=>
 ∃e1,t.cell? (d1.add 0)=some (pointer e1)∧
 CP 44 #[pointer e1,int .i64 x] t (fun f1 g1=>
 ∃h1,f1= .returned (bool h1)∧
 ac (!h1)
 ((slice none 0 0).oneCell'=true∧(∃u,g1.cell? (nb w)=some u)∧g1.frozen? (nb w)=false∧
 ∀i1,i1=(g1.setCell (nb w) (slice none 0 0))→
 ∃j1 k1 l1,(i1.cell? (nb w)=some (slice j1 k1 l1)∧True)∧
 R (tuple #[agg #[slice j1 k1 l1],int .i64 8]) i1)
 (∀m1,m1=g1.alloc (.cells #[slice none 0 0] 88)→
 ∀n1,n1=m1.alloc (.cells #[int .i64 0] 3)→
 (int .i64 0).oneCell'=true∧(∃u,n1.cell? (nb m1)=some u)∧n1.frozen? (nb m1)=false∧
 ∀o1,o1=(n1.setCell (nb m1) (int .i64 0))→
 ∀p1:KW,(∀(q1:Int) (r1:World),(ac (decide (q1< (c:Int)))
 (af b (fun s1=>
 (0:Int)≤q1∧q1< (c:Int)∧
 ∃t1,r1.cell? (s1.add (q1.toNat*1))=some (int .i64 t1)∧
 ∀u1,u1=r1.alloc (.cells #[int .i64 0] 3)→
 (int .i64 t1).oneCell'=true∧(∃u,u1.cell? (nb r1)=some u)∧u1.frozen? (nb r1)=false∧
 ∀v1,v1=(u1.setCell (nb r1) (int .i64 t1))→
 ∃x1,v1.cell? (nb m1)=some (int .i64 x1)∧
 Ar .i64 ((c:Int)-1) (fun y1=>
 Ar .i64 (y1-q1) (fun z1=>
 CP 95 #[pointer a,int .i64 x1,int .i64 z1,func (.func 99) #[] #[pointer (some (nb r1)),pointer (some (nb m1)),pointer (some (nb g1))]] v1 (fun a2 b2=>
 ∃c2,a2= .returned (bool c2)∧
 Ar .i64 (q1+1) (fun d2=>
 p1 [int .i64 d2] b2))))))
 (∃e2 f2 g2,(r1.cell? (nb g1)=some (slice e2 f2 g2)∧True)∧
 (slice e2 f2 g2).oneCell'=true∧(∃u,r1.cell? (nb w)=some u)∧r1.frozen? (nb w)=false∧
 ∀h2,h2=(r1.setCell (nb w) (slice e2 f2 g2))→
 ∃i2 j2 k2,(h2.cell? (nb w)=some (slice i2 j2 k2)∧True)∧
 R (tuple #[agg #[slice i2 j2 k2],int .i64 0]) h2))→p1 [int .i64 q1] r1)→
 p1 [int .i64 0] o1)))))))))
theorem BQ (a b:OA) (c d:Nat) (w:World) (R:RW) (hh:O1 a b c d w R):CR 51 #[pointer a,slice b c d] w R:=
 aD (fn:=Tryz.f51) (by kernel_rfl) (by kernel_rfl) (by kernel_rfl) (by kernel_rfl) (by kernel_rfl) hh
def Pj (a:Int) (w:World) (R:RW):Prop:=
 ∀b,b=w.alloc (.cells #[slice none 0 0] 88)→
 (0:Int)≤32∧
 ∀c,c=b.alloc (.cells #[int .u32 (IntKind.wrap .u32 a),int .u32 (IntKind.wrap .u32 (Int.fdiv a (2^(min (32:Int).toNat (IntKind.bits .u64)))))] 153)→
 CP 93 #[slice (some (nb b)) 2 2] c (fun d f=>
 ∃g h i,d= .returned (agg #[slice g h i])∧
 (slice g h i).oneCell'=true∧(∃u,f.cell? (nb w)=some u)∧f.frozen? (nb w)=false∧
 ∀j,j=(f.setCell (nb w) (slice g h i))→
 ∃k l m,(j.cell? (nb w)=some (slice k l m)∧True)∧
 R (agg #[slice k l m]) j)
theorem As (a:Int) (w:World) (R:RW) (hh:Pj a w R):CR 53 #[int .u64 a] w R:=
 aD (fn:=Tryz.f53) (by kernel_rfl) (by kernel_rfl) (by kernel_rfl) (by kernel_rfl) (by kernel_rfl) hh
def OV (a b:OA) (c:Int) (w:World) (R:RW):Prop:=
 ac (Option.isNone a)
 (R (tuple #[pointer none,int .i64 1]) w)
 (ac (Option.isNone b)
 (R (tuple #[pointer none,int .i64 1]) w)
 (ac (decide (c<0))
 (R (tuple #[pointer none,int .i64 1]) w)
 (CP 37 #[pointer a] w (fun d f=>
 ∃g,d= .returned (int .i64 g)∧
 g≠0∧
 ac (decide (c>(IntKind.wrap .i64 (Int.tdiv 20000 g))))
 (R (tuple #[pointer none,int .i64 5]) f)
 (∀h,h=f.alloc (.cells #[pointer a,pointer b,int .i64 c,int .u32 0,int .i32 0,int .u32 0,slice none 0 0] 172)→
 R (tuple #[pointer (some (nb f)),int .i64 0]) h)))))
theorem BV (a b:OA) (c:Int) (w:World) (R:RW) (hh:OV a b c w R):CR 55 #[pointer a,pointer b,int .i64 c] w R:=
 aD (fn:=Tryz.f55) (by kernel_rfl) (by kernel_rfl) (by kernel_rfl) (by kernel_rfl) (by kernel_rfl) hh
def OU (a:OA) (b c:Nat) (d:OA) (f g:Nat) (w:World) (R:RW):Prop:=
 ∀h,h=w.alloc (.cells #[slice a b c] 88)→
 ∀i,i=h.alloc (.cells #[slice d f g] 88)→
 ∀j,j=i.alloc (.cells #[slice none 0 0] 88)→
 ∃k l m,j.cell? ((nb w).add 0)=some (slice k l m)∧
 ∃n o p,j.cell? ((nb h).add 0)=some (slice n o p)∧
 ∃q r,(Builtin.max_ #[3,3] 3 #[int .i64 (l:Int),int .i64 (o:Int)]).run Tryz.prog j= .ok (int .i64 q) r∧
 Ar .i64 (q+1) (fun s=>
 ∃t x y z,(Instr.makeSlice 86 (int .i64 0) (int .i64 s)).run Tryz.prog r= .ok (slice t x y) z∧
 ∀a1:KW,(∀(b1 c1:Int) (d1:OA) (e1 f1:Nat) (g1:World),(ac (decide (b1<q))
 (∀h1,h1=g1.drew→
 ∃i1 j1 k1,(h1.cell? (nb w)=some (slice i1 j1 k1)∧True)∧
 ∃l1 m1 n1,(h1.cell? (nb h)=some (slice l1 m1 n1)∧True)∧
 CP 153 #[agg #[slice i1 j1 k1],int .i64 b1] h1 (fun o1 p1=>
 ∃q1,o1= .returned (int .u32 q1)∧
 (p1.cell? (nb h)=some (slice l1 m1 n1)∧True)∧
 CP 153 #[agg #[slice l1 m1 n1],int .i64 b1] p1 (fun r1 s1=>
 ∃t1,r1= .returned (int .u32 t1)∧
 Ar .u64 ((IntKind.wrap .u64 q1:Int)+(IntKind.wrap .u64 t1)) (fun u1=>
 Ar .u64 (u1+c1) (fun v1=>
 ∀x1,x1=s1.alloc (.cells #[int .u32 (IntKind.wrap .u32 v1)] 153)→
 ∃y1 z1 a2 b2,(Builtin.append_ #[86,86] 86 #[slice d1 e1 f1,slice (some (nb s1)) 1 1]).run Tryz.prog x1= .ok (slice y1 z1 a2) b2∧
 (0:Int)≤32∧
 Ar .i64 (b1+1) (fun c2=>
 a1 [int .i64 c2,int .u64 (Int.fdiv v1 (2^(min (32:Int).toNat (IntKind.bits .u64)))),slice y1 z1 a2] b2))))))
 (∀d2,d2=g1.alloc (.cells #[int .u32 (IntKind.wrap .u32 c1)] 153)→
 ∃e2 f2 g2 h2,(Builtin.append_ #[86,86] 86 #[slice d1 e1 f1,slice (some (nb g1)) 1 1]).run Tryz.prog d2= .ok (slice e2 f2 g2) h2∧
 CP 93 #[slice e2 f2 g2] h2 (fun i2 j2=>
 ∃k2 l2 m2,i2= .returned (agg #[slice k2 l2 m2])∧
 (slice k2 l2 m2).oneCell'=true∧(∃u,j2.cell? (nb i)=some u)∧j2.frozen? (nb i)=false∧
 ∀n2,n2=(j2.setCell (nb i) (slice k2 l2 m2))→
 ∃o2 p2 q2,(n2.cell? (nb i)=some (slice o2 p2 q2)∧True)∧
 R (agg #[slice o2 p2 q2]) n2)))→a1 [int .i64 b1,int .u64 c1,slice d1 e1 f1] g1)→
 a1 [int .i64 0,int .u64 0,slice t x y] z)
theorem Ct (a:OA) (b c:Nat) (d:OA) (f g:Nat) (w:World) (R:RW) (hh:OU a b c d f g w R):CR 82 #[agg #[slice a b c],agg #[slice d f g]] w R:=
 aD (fn:=Tryz.f82) (by kernel_rfl) (by kernel_rfl) (by kernel_rfl) (by kernel_rfl) (by kernel_rfl) hh
def OX (a:OA) (w:World) (R:RW):Prop:=
 af a (fun b=>
 ∃c,w.cell? (b.add 0)=some (pointer c)∧
 CP 37 #[pointer c] w (fun d f=>
 ∃g,d= .returned (int .i64 g)∧
 ∃h i j k,(Instr.makeSlice 166 (int .i64 g) (int .i64 g)).run Tryz.prog f= .ok (slice h i j) k∧
 ∃l m n o,(Instr.makeSlice 252 (int .i64 g) (int .i64 g)).run Tryz.prog k= .ok (slice l m n) o∧
 ∀p:KW,(∀(q:Int) (r:World),(ac (decide (q<g))
 (∀s:KW,(∀t:World,(Ar .i64 (q+1) (fun x=>
 p [int .i64 x] t))→s [] t)→
 CP 156 #[pointer a,int .i64 q] r (fun y z=>
 ∃a1,y= .returned (map a1)∧
 af l (fun b1=>
 (0:Int)≤q∧q< (m:Int)∧
 (map a1).oneCell'=true∧(∃u,z.cell? (b1.add (q.toNat*1))=some u)∧z.frozen? (b1.add (q.toNat*1))=false∧
 ∀c1,c1=(z.setCell (b1.add (q.toNat*1)) (map a1))→
 af a (fun d1=>
 ∃e1,c1.cell? (d1.add 0)=some (pointer e1)∧
 CP 44 #[pointer e1,int .i64 q] c1 (fun f1 g1=>
 ∃h1,f1= .returned (bool h1)∧
 ac h1
 (CP 53 #[int .u64 1] g1 (fun i1 j1=>
 ∃k1 l1 m1,i1= .returned (agg #[slice k1 l1 m1])∧
 af h (fun n1=>
 (0:Int)≤q∧q< (i:Int)∧
 (slice k1 l1 m1).oneCell'=true∧(∃u,j1.cell? (n1.add (q.toNat*1))=some u)∧j1.frozen? (n1.add (q.toNat*1))=false∧
 ∀o1,o1=(j1.setCell (n1.add (q.toNat*1)) (slice k1 l1 m1))→
 s [] o1)))
 (s [] g1))))))
 (af a (fun p1=>
 ∃q1 r1 s1,r.cell? ((p1.add 3).add 3)=some (slice q1 r1 s1)∧
 ∀t1,t1=r.alloc (.cells #[slice h i j] 166)→
 ∃u1 v1 x1 y1,(Builtin.append_ #[168,168] 168 #[slice q1 r1 s1,slice (some (nb r)) 1 1]).run Tryz.prog t1= .ok (slice u1 v1 x1) y1∧
 af a (fun z1=>
 (slice u1 v1 x1).oneCell'=true∧(∃u,y1.cell? ((z1.add 3).add 3)=some u)∧y1.frozen? ((z1.add 3).add 3)=false∧
 ∀a2,a2=(y1.setCell ((z1.add 3).add 3) (slice u1 v1 x1))→
 ∀b2:KW,(∀(c2:Int) (d2:World),(af a (fun e2=>
 ∃f2,d2.cell? (e2.add 2)=some (int .i64 f2)∧
 ac (decide (c2≤f2))
 (∃g2 h2 i2 j2,(Instr.makeSlice 166 (int .i64 g) (int .i64 g)).run Tryz.prog d2= .ok (slice g2 h2 i2) j2∧
 ∀k2:KW,(∀(l2:Int) (m2:World),(ac (decide (l2<g))
 (af l (fun n2=>
 (0:Int)≤l2∧l2< (m:Int)∧
 ∃o2,m2.cell? (n2.add (l2.toNat*1))=some (map o2)∧
 ∃p2 q2,(Instr.range 253 (map o2)).run Tryz.prog m2= .ok (pointer p2) q2∧
 ∀r2:KW,(∀s2:World,((∃t2 u2,(Instr.next (pointer p2) false 0).run Tryz.prog s2= .ok (tuple #[bool t2]) u2∧
 ∃v2,bool t2=bool v2∧
 ac v2
 (∃x2 y2 z2,(Instr.entry (pointer p2)).run Tryz.prog u2= .ok (tuple #[x2,y2]) z2∧
 ∃a3,x2=int .i64 a3∧
 ∃b3,y2=int .u32 b3∧
 ∀c3,c3=z2.drew→
 af g2 (fun d3=>
 (0:Int)≤l2∧l2< (h2:Int)∧
 ∃e3 f3 g3,(c3.cell? (d3.add (l2.toNat*1))=some (slice e3 f3 g3)∧True)∧
 af a (fun h3=>
 ∃i3 j3 k3,c3.cell? ((h3.add 3).add 3)=some (slice i3 j3 k3)∧
 Ar .i64 (c2-1) (fun l3=>
 af i3 (fun m3=>
 (0:Int)≤l3∧l3< (j3:Int)∧
 ∃n3 o3 p3,c3.cell? (m3.add (l3.toNat*1))=some (slice n3 o3 p3)∧
 af n3 (fun q3=>
 (0:Int)≤a3∧a3< (o3:Int)∧
 ∃r3 s3 t3,(c3.cell? (q3.add (a3.toNat*1))=some (slice r3 s3 t3)∧True)∧
 CP 157 #[agg #[slice r3 s3 t3],int .u32 b3] c3 (fun u3 v3=>
 ∃x3 y3 z3,u3= .returned (agg #[slice x3 y3 z3])∧
 (v3.cell? (d3.add (l2.toNat*1))=some (slice e3 f3 g3)∧True)∧
 ∀a4,a4=v3.alloc (.cells #[slice x3 y3 z3] 88)→
 (a4.cell? (d3.add (l2.toNat*1))=some (slice e3 f3 g3)∧True)∧
 CP 40 #[agg #[slice e3 f3 g3],slice (some (nb v3)) 1 1] a4 (fun b4 c4=>
 ∃d4 e4 f4,b4= .returned (agg #[slice d4 e4 f4])∧
 af g2 (fun g4=>
 (0:Int)≤l2∧l2< (h2:Int)∧
 (slice d4 e4 f4).oneCell'=true∧(∃u,c4.cell? (g4.add (l2.toNat*1))=some u)∧c4.frozen? (g4.add (l2.toNat*1))=false∧
 ∀h4,h4=(c4.setCell (g4.add (l2.toNat*1)) (slice d4 e4 f4))→
 r2 [] h4)))))))))
 (Ar .i64 (l2+1) (fun i4=>
 k2 [int .i64 i4] u2)))∨
 (∃j4 k4 l4 m4,(Instr.next (pointer p2) false 0).run Tryz.prog s2= .ok (tuple #[bool j4,k4,l4]) m4∧
 ∃n4,bool j4=bool n4∧
 ac n4
 (∃o4 p4 q4,(Instr.entry (pointer p2)).run Tryz.prog m4= .ok (tuple #[o4,p4]) q4∧
 ∃r4,o4=int .i64 r4∧
 ∃s4,p4=int .u32 s4∧
 ∀t4,t4=q4.drew→
 af g2 (fun u4=>
 (0:Int)≤l2∧l2< (h2:Int)∧
 ∃v4 x4 y4,(t4.cell? (u4.add (l2.toNat*1))=some (slice v4 x4 y4)∧True)∧
 af a (fun z4=>
 ∃a5 b5 c5,t4.cell? ((z4.add 3).add 3)=some (slice a5 b5 c5)∧
 Ar .i64 (c2-1) (fun d5=>
 af a5 (fun e5=>
 (0:Int)≤d5∧d5< (b5:Int)∧
 ∃f5 g5 h5,t4.cell? (e5.add (d5.toNat*1))=some (slice f5 g5 h5)∧
 af f5 (fun i5=>
 (0:Int)≤r4∧r4< (g5:Int)∧
 ∃j5 k5 l5,(t4.cell? (i5.add (r4.toNat*1))=some (slice j5 k5 l5)∧True)∧
 CP 157 #[agg #[slice j5 k5 l5],int .u32 s4] t4 (fun m5 n5=>
 ∃o5 p5 q5,m5= .returned (agg #[slice o5 p5 q5])∧
 (n5.cell? (u4.add (l2.toNat*1))=some (slice v4 x4 y4)∧True)∧
 ∀r5,r5=n5.alloc (.cells #[slice o5 p5 q5] 88)→
 (r5.cell? (u4.add (l2.toNat*1))=some (slice v4 x4 y4)∧True)∧
 CP 40 #[agg #[slice v4 x4 y4],slice (some (nb n5)) 1 1] r5 (fun s5 t5=>
 ∃u5 v5 x5,s5= .returned (agg #[slice u5 v5 x5])∧
 af g2 (fun y5=>
 (0:Int)≤l2∧l2< (h2:Int)∧
 (slice u5 v5 x5).oneCell'=true∧(∃u,t5.cell? (y5.add (l2.toNat*1))=some u)∧t5.frozen? (y5.add (l2.toNat*1))=false∧
 ∀z5,z5=(t5.setCell (y5.add (l2.toNat*1)) (slice u5 v5 x5))→
 r2 [] z5)))))))))
 (Ar .i64 (l2+1) (fun a6=>
 k2 [int .i64 a6] m4))))→r2 [] s2)→
 r2 [] q2))
 (af a (fun b6=>
 ∃c6 d6 e6,m2.cell? ((b6.add 3).add 3)=some (slice c6 d6 e6)∧
 ∀f6,f6=m2.alloc (.cells #[slice g2 h2 i2] 166)→
 ∃g6 h6 i6 j6,(Builtin.append_ #[168,168] 168 #[slice c6 d6 e6,slice (some (nb m2)) 1 1]).run Tryz.prog f6= .ok (slice g6 h6 i6) j6∧
 af a (fun k6=>
 (slice g6 h6 i6).oneCell'=true∧(∃u,j6.cell? ((k6.add 3).add 3)=some u)∧j6.frozen? ((k6.add 3).add 3)=false∧
 ∀l6,l6=(j6.setCell ((k6.add 3).add 3) (slice g6 h6 i6))→
 Ar .i64 (c2+1) (fun m6=>
 b2 [int .i64 m6] l6)))))→k2 [int .i64 l2] m2)→
 k2 [int .i64 0] j2)
 (R (tuple #[]) d2)))→b2 [int .i64 c2] d2)→
 b2 [int .i64 1] a2))))→p [int .i64 q] r)→
 p [int .i64 0] o))
theorem Av (a:OA) (w:World) (R:RW) (hh:OX a w R):CR 84 #[pointer a] w R:=
 np KS (fn:=Tryz.f84) (by kernel_rfl) (body:=uw Tryz.f84) (by kernel_rfl) (by kernel_rfl) (by kernel_rfl) (Eq.mp (by kernel_rfl) hh)
def O8 (a b:Int) (w:World) (R:RW):Prop:=
 CP 158 #[int .i64 a] w (fun c d=>
 ∃f,c= .returned (bool f)∧
 CP 158 #[int .i64 b] d (fun g h=>
 ∃i,g= .returned (bool i)∧
 ac f
 (ac i
 (R (int .i64 0) h)
 (R (int .i64 (-1)) h))
 (ac i
 (R (int .i64 1) h)
 (ac (decide (a<b))
 (R (int .i64 (-1)) h)
 (ac (decide (a>b))
 (R (int .i64 1) h)
 (R (int .i64 0) h))))))
theorem Cq (a b:Int) (w:World) (R:RW) (hh:O8 a b w R):CR 85 #[int .i64 a,int .i64 b] w R:=
 aD (fn:=Tryz.f85) (by kernel_rfl) (by kernel_rfl) (by kernel_rfl) (by kernel_rfl) (by kernel_rfl) hh
def Oo (a b:Int) (w:World) (R:RW):Prop:=
 CP 159 #[int .u32 a] w (fun c d=>
 ∃f,c= .returned (bool f)∧
 CP 159 #[int .u32 b] d (fun g h=>
 ∃i,g= .returned (bool i)∧
 ac f
 (ac i
 (R (int .i64 0) h)
 (R (int .i64 (-1)) h))
 (ac i
 (R (int .i64 1) h)
 (ac (decide (a<b))
 (R (int .i64 (-1)) h)
 (ac (decide (a>b))
 (R (int .i64 1) h)
 (R (int .i64 0) h))))))
theorem Bn (a b:Int) (w:World) (R:RW) (hh:Oo a b w R):CR 86 #[int .u32 a,int .u32 b] w R:=
 aD (fn:=Tryz.f86) (by kernel_rfl) (by kernel_rfl) (by kernel_rfl) (by kernel_rfl) (by kernel_rfl) hh
def Oy (a:OA) (b c:Nat) (d:Int) (w:World) (R:RW):Prop:=
 ∀f,f=w.alloc (.cells #[slice a b c] 88)→
 ∀g,g=f.alloc (.cells #[slice none 0 0] 88)→
 ac (d==0)
 ((slice none 0 0).oneCell'=true∧(∃u,g.cell? (nb f)=some u)∧g.frozen? (nb f)=false∧
 ∀h,h=(g.setCell (nb f) (slice none 0 0))→
 ∃i j k,(h.cell? (nb f)=some (slice i j k)∧True)∧
 R (tuple #[agg #[slice i j k],int .u32 0]) h)
 (∃l m n,g.cell? ((nb w).add 0)=some (slice l m n)∧
 ∃o p q r,(Instr.makeSlice 86 (int .i64 (m:Int)) (int .i64 (m:Int))).run Tryz.prog g= .ok (slice o p q) r∧
 ∃s t x,r.cell? ((nb w).add 0)=some (slice s t x)∧
 Ar .i64 ((t:Int)-1) (fun y=>
 ∀z:KW,(∀(a1 b1:Int) (c1:World),(ac (decide (a1≥0))
 ((0:Int)≤32∧
 ∃d1 e1 f1,c1.cell? ((nb w).add 0)=some (slice d1 e1 f1)∧
 af d1 (fun g1=>
 (0:Int)≤a1∧a1< (e1:Int)∧
 ∃h1,c1.cell? (g1.add (a1.toNat*1))=some (int .u32 h1)∧
 (IntKind.wrap .u64 d:Int)≠0∧
 af o (fun i1=>
 (0:Int)≤a1∧a1< (p:Int)∧
 (int .u32 (IntKind.wrap .u32 (IntKind.wrap .u64 (Int.tdiv (IntKind.wrap .u64 ((BitVec.ofInt (IntKind.bits .u64) (IntKind.wrap .u64 (b1*2^(min (32:Int).toNat (IntKind.bits .u64))))|||BitVec.ofInt (IntKind.bits .u64) (IntKind.wrap .u64 h1)).toNat:Int)) (IntKind.wrap .u64 d))))).oneCell'=true∧(∃u,c1.cell? (i1.add (a1.toNat*1))=some u)∧c1.frozen? (i1.add (a1.toNat*1))=false∧
 ∀j1,j1=(c1.setCell (i1.add (a1.toNat*1)) (int .u32 (IntKind.wrap .u32 (IntKind.wrap .u64 (Int.tdiv (IntKind.wrap .u64 ((BitVec.ofInt (IntKind.bits .u64) (IntKind.wrap .u64 (b1*2^(min (32:Int).toNat (IntKind.bits .u64))))|||BitVec.ofInt (IntKind.bits .u64) (IntKind.wrap .u64 h1)).toNat:Int)) (IntKind.wrap .u64 d))))))→
 (IntKind.wrap .u64 d:Int)≠0∧
 Ar .i64 (a1-1) (fun k1=>
 z [int .i64 k1,int .u64 (Int.tmod (IntKind.wrap .u64 ((BitVec.ofInt (IntKind.bits .u64) (IntKind.wrap .u64 (b1*2^(min (32:Int).toNat (IntKind.bits .u64))))|||BitVec.ofInt (IntKind.bits .u64) (IntKind.wrap .u64 h1)).toNat:Int)) (IntKind.wrap .u64 d))] j1))))
 (CP 93 #[slice o p q] c1 (fun l1 m1=>
 ∃n1 o1 p1,l1= .returned (agg #[slice n1 o1 p1])∧
 (slice n1 o1 p1).oneCell'=true∧(∃u,m1.cell? (nb f)=some u)∧m1.frozen? (nb f)=false∧
 ∀q1,q1=(m1.setCell (nb f) (slice n1 o1 p1))→
 ∃r1 s1 t1,(q1.cell? (nb f)=some (slice r1 s1 t1)∧True)∧
 R (tuple #[agg #[slice r1 s1 t1],int .u32 (IntKind.wrap .u32 b1)]) q1)))→z [int .i64 a1,int .u64 b1] c1)→
 z [int .i64 y,int .u64 0] r))
theorem BK (a:OA) (b c:Nat) (d:Int) (w:World) (R:RW) (hh:Oy a b c d w R):CR 87 #[agg #[slice a b c],int .u32 d] w R:=
 aD (fn:=Tryz.f87) (by kernel_rfl) (by kernel_rfl) (by kernel_rfl) (by kernel_rfl) (by kernel_rfl) hh
def Pd (a:OA) (b c:Nat) (w:World) (R:RW):Prop:=
 Ar .i64 ((b:Int)-1) (fun d=>
 ∀f:KW,(∀(g h:Int) (i:World),(ac (decide (h<g))
 (∀j,j=i.drew→
 af a (fun k=>
 (0:Int)≤g∧g< (b:Int)∧
 ∃l,j.cell? (k.add (g.toNat*1))=some (int .u8 l)∧
 af a (fun m=>
 (0:Int)≤h∧h< (b:Int)∧
 ∃n,j.cell? (m.add (h.toNat*1))=some (int .u8 n)∧
 af a (fun o=>
 (0:Int)≤h∧h< (b:Int)∧
 (int .u8 l).oneCell'=true∧(∃u,j.cell? (o.add (h.toNat*1))=some u)∧j.frozen? (o.add (h.toNat*1))=false∧
 ∀p,p=(j.setCell (o.add (h.toNat*1)) (int .u8 l))→
 af a (fun q=>
 (0:Int)≤g∧g< (b:Int)∧
 (int .u8 n).oneCell'=true∧(∃u,p.cell? (q.add (g.toNat*1))=some u)∧p.frozen? (q.add (g.toNat*1))=false∧
 ∀r,r=(p.setCell (q.add (g.toNat*1)) (int .u8 n))→
 Ar .i64 (h+1) (fun s=>
 Ar .i64 (g-1) (fun t=>
 f [int .i64 t,int .i64 s] r)))))))
 (R (tuple #[]) i))→f [int .i64 g,int .i64 h] i)→
 f [int .i64 d,int .i64 0] w)
theorem Bm (a:OA) (b c:Nat) (w:World) (R:RW) (hh:Pd a b c w R):CR 88 #[slice a b c] w R:=
 aD (fn:=Tryz.f88) (by kernel_rfl) (by kernel_rfl) (by kernel_rfl) (by kernel_rfl) (by kernel_rfl) hh
def OJ (a:Int) (w:World) (R:RW):Prop:=
 ∀b:KW,(∀(c:OA) (d f:Nat) (g:Int) (h:World),(ac (decide (g>0))
 ((10:Int)≠0∧
 ∀i,i=h.alloc (.cells #[int .u8 (IntKind.wrap .u8 (Int.tmod g 10))] 5)→
 ∃j k l m,(Builtin.append_ #[98,98] 98 #[slice c d f,slice (some (nb h)) 1 1]).run Tryz.prog i= .ok (slice j k l) m∧
 (10:Int)≠0∧
 b [slice j k l,int .u64 (IntKind.wrap .u64 (Int.tdiv g 10))] m)
 (R (slice c d f) h))→b [slice c d f,int .u64 g] h)→
 b [slice none 0 0,int .u64 a] w
theorem Aw (a:Int) (w:World) (R:RW) (hh:OJ a w R):CR 89 #[int .u64 a] w R:=
 aD (fn:=Tryz.f89) (by kernel_rfl) (by kernel_rfl) (by kernel_rfl) (by kernel_rfl) (by kernel_rfl) hh
def Ot (a:OA) (b c:Nat) (d:OA) (f g:Nat) (w:World) (R:RW):Prop:=
 ∀h:KW,(∀(i j:Int) (k:OA) (l m:Nat) (n:World),(ac (decide (i< (b:Int)))
 (∀o:KW,(∀(p:Int) (q:World),(∀r:KW,(∀(s:Int) (t:World),((10:Int)≠0∧
 ∀u,u=t.alloc (.cells #[int .u8 (IntKind.wrap .u8 (Int.tmod s 10))] 5)→
 ∃x y z a1,(Builtin.append_ #[98,98] 98 #[slice k l m,slice (some (nb t)) 1 1]).run Tryz.prog u= .ok (slice x y z) a1∧
 (10:Int)≠0∧
 Ar .i64 (i+1) (fun b1=>
 h [int .i64 b1,int .i64 (IntKind.wrap .i64 (Int.tdiv s 10)),slice x y z] a1))→r [int .i64 s] t)→
 ac (decide (i< (f:Int)))
 (af d (fun c1=>
 (0:Int)≤i∧i< (f:Int)∧
 ∃d1,q.cell? (c1.add (i.toNat*1))=some (int .u8 d1)∧
 Ar .i64 (p+(IntKind.wrap .i64 d1)) (fun e1=>
 r [int .i64 e1] q)))
 (r [int .i64 p] q))→o [int .i64 p] q)→
 ac (decide (i< (b:Int)))
 (af a (fun f1=>
 (0:Int)≤i∧i< (b:Int)∧
 ∃g1,n.cell? (f1.add (i.toNat*1))=some (int .u8 g1)∧
 Ar .i64 (j+(IntKind.wrap .i64 g1)) (fun h1=>
 o [int .i64 h1] n)))
 (o [int .i64 j] n))
 (ac (decide (i< (f:Int)))
 (∀i1:KW,(∀(j1:Int) (k1:World),(∀l1:KW,(∀(m1:Int) (n1:World),((10:Int)≠0∧
 ∀o1,o1=n1.alloc (.cells #[int .u8 (IntKind.wrap .u8 (Int.tmod m1 10))] 5)→
 ∃p1 q1 r1 s1,(Builtin.append_ #[98,98] 98 #[slice k l m,slice (some (nb n1)) 1 1]).run Tryz.prog o1= .ok (slice p1 q1 r1) s1∧
 (10:Int)≠0∧
 Ar .i64 (i+1) (fun t1=>
 h [int .i64 t1,int .i64 (IntKind.wrap .i64 (Int.tdiv m1 10)),slice p1 q1 r1] s1))→l1 [int .i64 m1] n1)→
 ac (decide (i< (f:Int)))
 (af d (fun u1=>
 (0:Int)≤i∧i< (f:Int)∧
 ∃v1,k1.cell? (u1.add (i.toNat*1))=some (int .u8 v1)∧
 Ar .i64 (j1+(IntKind.wrap .i64 v1)) (fun x1=>
 l1 [int .i64 x1] k1)))
 (l1 [int .i64 j1] k1))→i1 [int .i64 j1] k1)→
 ac (decide (i< (b:Int)))
 (af a (fun y1=>
 (0:Int)≤i∧i< (b:Int)∧
 ∃z1,n.cell? (y1.add (i.toNat*1))=some (int .u8 z1)∧
 Ar .i64 (j+(IntKind.wrap .i64 z1)) (fun a2=>
 i1 [int .i64 a2] n)))
 (i1 [int .i64 j] n))
 (ac (decide (j>0))
 (∀b2:KW,(∀(c2:Int) (d2:World),(∀e2:KW,(∀(f2:Int) (g2:World),((10:Int)≠0∧
 ∀h2,h2=g2.alloc (.cells #[int .u8 (IntKind.wrap .u8 (Int.tmod f2 10))] 5)→
 ∃i2 j2 k2 l2,(Builtin.append_ #[98,98] 98 #[slice k l m,slice (some (nb g2)) 1 1]).run Tryz.prog h2= .ok (slice i2 j2 k2) l2∧
 (10:Int)≠0∧
 Ar .i64 (i+1) (fun m2=>
 h [int .i64 m2,int .i64 (IntKind.wrap .i64 (Int.tdiv f2 10)),slice i2 j2 k2] l2))→e2 [int .i64 f2] g2)→
 ac (decide (i< (f:Int)))
 (af d (fun n2=>
 (0:Int)≤i∧i< (f:Int)∧
 ∃o2,d2.cell? (n2.add (i.toNat*1))=some (int .u8 o2)∧
 Ar .i64 (c2+(IntKind.wrap .i64 o2)) (fun p2=>
 e2 [int .i64 p2] d2)))
 (e2 [int .i64 c2] d2))→b2 [int .i64 c2] d2)→
 ac (decide (i< (b:Int)))
 (af a (fun q2=>
 (0:Int)≤i∧i< (b:Int)∧
 ∃r2,n.cell? (q2.add (i.toNat*1))=some (int .u8 r2)∧
 Ar .i64 (j+(IntKind.wrap .i64 r2)) (fun s2=>
 b2 [int .i64 s2] n)))
 (b2 [int .i64 j] n))
 (CP 160 #[slice k l m] n (fun t2 u2=>
 ∃v2 x2 y2,t2= .returned (slice v2 x2 y2)∧
 R (slice v2 x2 y2) u2)))))→h [int .i64 i,int .i64 j,slice k l m] n)→
 h [int .i64 0,int .i64 0,slice none 0 0] w
theorem Bv (a:OA) (b c:Nat) (d:OA) (f g:Nat) (w:World) (R:RW) (hh:Ot a b c d f g w R):CR 92 #[slice a b c,slice d f g] w R:=
 aD (fn:=Tryz.f92) (by kernel_rfl) (by kernel_rfl) (by kernel_rfl) (by kernel_rfl) (by kernel_rfl) hh
def Ph (a:OA) (b c:Nat) (w:World) (R:RW):Prop:=
 ∀d,d=w.alloc (.cells #[slice none 0 0] 88)→
 ∀f:KW,(∀(g:Int) (h:World),(ac (decide (g>0))
 (Ar .i64 (g-1) (fun i=>
 af a (fun j=>
 (0:Int)≤i∧i< (b:Int)∧
 ∃k,h.cell? (j.add (i.toNat*1))=some (int .u32 k)∧
 ac (k==0)
 (Ar .i64 (g-1) (fun l=>
 f [int .i64 l] h))
 ((0:Int)≤(0:Int)∧(0:Int)≤g∧g≤g∧g≤(c:Int)∧True∧
 (slice (bh a (0:Int).toNat g.toNat 1) (g.toNat- (0:Int).toNat) (g.toNat- (0:Int).toNat)).oneCell'=true∧(∃u,h.cell? (nb w)=some u)∧h.frozen? (nb w)=false∧
 ∀m,m=(h.setCell (nb w) (slice (bh a (0:Int).toNat g.toNat 1) (g.toNat- (0:Int).toNat) (g.toNat- (0:Int).toNat)))→
 ∃n o p,(m.cell? (nb w)=some (slice n o p)∧True)∧
 R (agg #[slice n o p]) m))))
 ((0:Int)≤(0:Int)∧(0:Int)≤g∧g≤g∧g≤(c:Int)∧True∧
 (slice (bh a (0:Int).toNat g.toNat 1) (g.toNat- (0:Int).toNat) (g.toNat- (0:Int).toNat)).oneCell'=true∧(∃u,h.cell? (nb w)=some u)∧h.frozen? (nb w)=false∧
 ∀q,q=(h.setCell (nb w) (slice (bh a (0:Int).toNat g.toNat 1) (g.toNat- (0:Int).toNat) (g.toNat- (0:Int).toNat)))→
 ∃r s t,(q.cell? (nb w)=some (slice r s t)∧True)∧
 R (agg #[slice r s t]) q))→f [int .i64 g] h)→
 f [int .i64 (b:Int)] d
theorem At (a:OA) (b c:Nat) (w:World) (R:RW) (hh:Ph a b c w R):CR 93 #[slice a b c] w R:=
 aD (fn:=Tryz.f93) (by kernel_rfl) (by kernel_rfl) (by kernel_rfl) (by kernel_rfl) (by kernel_rfl) hh
def Ox (a:OA) (b c:Int) (d:Value) (w:World) (R:RW):Prop:=
 af a (fun f=>
 ∃g,w.cell? (f.add 1)=some (pointer g)∧
 CP 19 #[pointer g] w (fun h i=>
 ∃j,h= .returned (int .i64 j)∧
 ∀k:KW,(∀(l:Int) (m:Bool) (n:World),(ac (decide (l<j))
 (CP 161 #[pointer a,int .i64 l] n (fun o p=>
 ∃q,o= .returned (int .i64 q)∧
 af a (fun r=>
 ∃s,p.cell? (r.add 0)=some (pointer s)∧
 CP 39 #[pointer s,int .i64 b,int .i64 q] p (fun t u=>
 ∃x y,t= .returned (tuple #[int .i64 x,bool y])∧
 ac y
 (af a (fun z=>
 ∃a1,u.cell? (z.add 0)=some (pointer a1)∧
 CP 44 #[pointer a1,int .i64 x] u (fun b1 c1=>
 ∃d1,b1= .returned (bool d1)∧
 ac d1
 (CP 41 #[pointer a,int .i64 x,int .i64 c] c1 (fun e1 f1=>
 ∃g1 h1 i1,e1= .returned (agg #[slice g1 h1 i1])∧
 bH gr d [int .i64 q,int .i64 x,agg #[slice g1 h1 i1]] f1 (fun j1 k1=>
 ∃l1,j1= .returned (bool l1)∧
 ac l1
 (R (bool true) k1)
 (Ar .i64 (l+1) (fun m1=>
 k [int .i64 m1,bool m] k1)))))
 (Ar .i64 (l+1) (fun n1=>
 k [int .i64 n1,bool m] c1)))))
 (Ar .i64 (l+1) (fun o1=>
 k [int .i64 o1,bool m] u))))))
 (R (bool false) n))→k [int .i64 l,bool m] n)→
 k [int .i64 0,bool false] i))
theorem BM (a:OA) (b c:Int) (d:Value) (w:World) (R:RW) (hh:Ox a b c d w R):CR 95 #[pointer a,int .i64 b,int .i64 c,d] w R:=
 aD (fn:=Tryz.f95) (by kernel_rfl) (by kernel_rfl) (by kernel_rfl) (by kernel_rfl) (by kernel_rfl) hh
def ON (a b:Int) (c:OA) (d f:Nat) (g h i:OA) (w:World) (R:RW):Prop:=
 ∀j,j=w.alloc (.cells #[slice c d f] 88)→
 af g (fun k=>
 ∃l,j.cell? k=some (int .i64 l)∧
 ac (a==l)
 (af h (fun m=>
 (int .i64 b).oneCell'=true∧(∃u,j.cell? m=some u)∧j.frozen? m=false∧
 ∀n,n=(j.setCell m (int .i64 b))→
 R (bool true) n))
 (af i (fun o=>
 ∃p q r,(j.cell? o=some (slice p q r)∧True)∧
 ∃s t x,(j.cell? (nb w)=some (slice s t x)∧True)∧
 ∀y,y=j.alloc (.cells #[slice s t x] 88)→
 CP 40 #[agg #[slice p q r],slice (some (nb j)) 1 1] y (fun z a1=>
 ∃b1 c1 d1,z= .returned (agg #[slice b1 c1 d1])∧
 af i (fun e1=>
 (slice b1 c1 d1).oneCell'=true∧(∃u,a1.cell? e1=some u)∧a1.frozen? e1=false∧
 ∀f1,f1=(a1.setCell e1 (slice b1 c1 d1))→
 R (bool false) f1)))))
theorem BJ (a b:Int) (c:OA) (d f:Nat) (g h i:OA) (w:World) (R:RW) (hh:ON a b c d f g h i w R):CR 99 #[int .i64 a,int .i64 b,agg #[slice c d f],pointer g,pointer h,pointer i] w R:=
 aD (fn:=Tryz.f99) (by kernel_rfl) (by kernel_rfl) (by kernel_rfl) (by kernel_rfl) (by kernel_rfl) hh
def K9 (a:OA) (b c:Nat) (d:Int) (w:World) (R:RW):Prop:=
 ∀f,f=w.alloc (.cells #[slice a b c] 88)→
 ∃g h i,f.cell? ((nb w).add 0)=some (slice g h i)∧
 ac (decide (d≥(h:Int)))
 (R (int .u32 0) f)
 (∃j k l,f.cell? ((nb w).add 0)=some (slice j k l)∧
 af j (fun m=>
 (0:Int)≤d∧d< (k:Int)∧
 ∃n,f.cell? (m.add (d.toNat*1))=some (int .u32 n)∧
 R (int .u32 n) f))
theorem zj (a:OA) (b c:Nat) (d:Int) (w:World) (R:RW) (hh:K9 a b c d w R):CR 153 #[agg #[slice a b c],int .i64 d] w R:=
 aD (fn:=Tryz.f153) (by kernel_rfl) (by kernel_rfl) (by kernel_rfl) (by kernel_rfl) (by kernel_rfl) hh
def Lj (a:OA) (b:Int) (w:World) (R:RW):Prop:=
 ∃c d,(Instr.makeMap 253 none).run Tryz.prog w= .ok (map c) d∧
 af a (fun f=>
 ∃g,d.cell? (f.add 1)=some (pointer g)∧
 CP 19 #[pointer g] d (fun h i=>
 ∃j,h= .returned (int .i64 j)∧
 ∀k:KW,(∀(l:Int) (m:World),(ac (decide (l<j))
 (∀n:KW,(∀o:World,(Ar .i64 (l+1) (fun p=>
 k [int .i64 p] o))→n [] o)→
 ∀q,q=m.drew→
 af a (fun r=>
 ∃s,q.cell? (r.add 0)=some (pointer s)∧
 CP 161 #[pointer a,int .i64 l] q (fun t u=>
 ∃x,t= .returned (int .i64 x)∧
 (u.cell? (r.add 0)=some (pointer s)∧True)∧
 CP 39 #[pointer s,int .i64 b,int .i64 x] u (fun y z=>
 ∃a1 b1,y= .returned (tuple #[int .i64 a1,bool b1])∧
 ac b1
 (af a (fun c1=>
 ∃d1,z.cell? (c1.add 0)=some (pointer d1)∧
 CP 44 #[pointer d1,int .i64 a1] z (fun e1 f1=>
 ∃g1,e1= .returned (bool g1)∧
 ac g1
 (∃h1 i1,(Instr.lookup 253 (map c) (int .i64 a1) false).run Tryz.prog f1= .ok (int .u32 h1) i1∧
 Ar .u32 (h1+1) (fun j1=>
 ∃k1,(Instr.mapUpdate 253 (map c) (int .i64 a1) (int .u32 j1)).run Tryz.prog i1= .ok () k1∧
 n [] k1))
 (n [] f1))))
 (n [] z)))))
 (R (map c) m))→k [int .i64 l] m)→
 k [int .i64 0] i))
theorem xd (a:OA) (b:Int) (w:World) (R:RW) (hh:Lj a b w R):CR 156 #[pointer a,int .i64 b] w R:=
 aD (fn:=Tryz.f156) (by kernel_rfl) (by kernel_rfl) (by kernel_rfl) (by kernel_rfl) (by kernel_rfl) hh
def Nw (a:OA) (b c:Nat) (d:Int) (w:World) (R:RW):Prop:=
 ∀f,f=w.alloc (.cells #[slice a b c] 88)→
 ∀g,g=f.alloc (.cells #[slice none 0 0] 88)→
 ∃h i j,g.cell? ((nb w).add 0)=some (slice h i j)∧
 Ar .i64 ((i:Int)+1) (fun k=>
 ∃l m n o,(Instr.makeSlice 86 (int .i64 0) (int .i64 k)).run Tryz.prog g= .ok (slice l m n) o∧
 ∃p q r,o.cell? ((nb w).add 0)=some (slice p q r)∧
 ∀s:KW,(∀(t x:Int) (y:OA) (z a1:Nat) (b1:World),(ac (decide (t< (q:Int)))
 (af p (fun c1=>
 (0:Int)≤t∧t< (q:Int)∧
 ∃d1,b1.cell? (c1.add (t.toNat*1))=some (int .u32 d1)∧
 Ar .u64 ((IntKind.wrap .u64 d1:Int)*(IntKind.wrap .u64 d)) (fun e1=>
 Ar .u64 (e1+x) (fun f1=>
 ∀g1,g1=b1.alloc (.cells #[int .u32 (IntKind.wrap .u32 f1)] 153)→
 ∃h1 i1 j1 k1,(Builtin.append_ #[86,86] 86 #[slice y z a1,slice (some (nb b1)) 1 1]).run Tryz.prog g1= .ok (slice h1 i1 j1) k1∧
 (0:Int)≤32∧
 Ar .i64 (t+1) (fun l1=>
 s [int .i64 l1,int .u64 (Int.fdiv f1 (2^(min (32:Int).toNat (IntKind.bits .u64)))),slice h1 i1 j1] k1)))))
 (∀m1,m1=b1.alloc (.cells #[int .u32 (IntKind.wrap .u32 x)] 153)→
 ∃n1 o1 p1 q1,(Builtin.append_ #[86,86] 86 #[slice y z a1,slice (some (nb b1)) 1 1]).run Tryz.prog m1= .ok (slice n1 o1 p1) q1∧
 CP 93 #[slice n1 o1 p1] q1 (fun r1 s1=>
 ∃t1 u1 v1,r1= .returned (agg #[slice t1 u1 v1])∧
 (slice t1 u1 v1).oneCell'=true∧(∃u,s1.cell? (nb f)=some u)∧s1.frozen? (nb f)=false∧
 ∀x1,x1=(s1.setCell (nb f) (slice t1 u1 v1))→
 ∃y1 z1 a2,(x1.cell? (nb f)=some (slice y1 z1 a2)∧True)∧
 R (agg #[slice y1 z1 a2]) x1)))→s [int .i64 t,int .u64 x,slice y z a1] b1)→
 s [int .i64 0,int .u64 0,slice l m n] o)
theorem vA (a:OA) (b c:Nat) (d:Int) (w:World) (R:RW) (hh:Nw a b c d w R):CR 157 #[agg #[slice a b c],int .u32 d] w R:=
 aD (fn:=Tryz.f157) (by kernel_rfl) (by kernel_rfl) (by kernel_rfl) (by kernel_rfl) (by kernel_rfl) hh
def Ly (a:Int) (w:World) (R:RW):Prop:=
 R (bool (a != a)) w
theorem vH (a:Int) (w:World) (R:RW) (hh:Ly a w R):CR 159 #[int .u32 a] w R:=
 aD (fn:=Tryz.f159) (by kernel_rfl) (by kernel_rfl) (by kernel_rfl) (by kernel_rfl) (by kernel_rfl) hh
def Md (a:OA) (b c:Nat) (w:World) (R:RW):Prop:=
 ∀d:KW,(∀(f:Int) (g:World),(ac (decide (f>0))
 (Ar .i64 (f-1) (fun h=>
 af a (fun i=>
 (0:Int)≤h∧h< (b:Int)∧
 ∃j,g.cell? (i.add (h.toNat*1))=some (int .u8 j)∧
 ac (j==0)
 (Ar .i64 (f-1) (fun k=>
 d [int .i64 k] g))
 ((0:Int)≤(0:Int)∧(0:Int)≤f∧f≤(c:Int)∧True∧True∧
 R (slice (bh a (0:Int).toNat (c:Int).toNat 1) (f.toNat- (0:Int).toNat) ((c:Int).toNat- (0:Int).toNat)) g))))
 ((0:Int)≤(0:Int)∧(0:Int)≤f∧f≤(c:Int)∧True∧True∧
 R (slice (bh a (0:Int).toNat (c:Int).toNat 1) (f.toNat- (0:Int).toNat) ((c:Int).toNat- (0:Int).toNat)) g))→d [int .i64 f] g)→
 d [int .i64 (b:Int)] w
theorem vk (a:OA) (b c:Nat) (w:World) (R:RW) (hh:Md a b c w R):CR 160 #[slice a b c] w R:=
 aD (fn:=Tryz.f160) (by kernel_rfl) (by kernel_rfl) (by kernel_rfl) (by kernel_rfl) (by kernel_rfl) hh
def NY (a:OA) (b:Int) (w:World) (R:RW):Prop:=
 af a (fun c=>
 ∃d,w.cell? (c.add 1)=some (pointer d)∧
 CP 38 #[pointer d,int .i64 b] w (fun f g=>
 ∃h i,f= .returned (tuple #[int .i64 h,bool i])∧
 R (int .i64 h) g))
theorem xa (a:OA) (b:Int) (w:World) (R:RW) (hh:NY a b w R):CR 161 #[pointer a,int .i64 b] w R:=
 aD (fn:=Tryz.f161) (by kernel_rfl) (by kernel_rfl) (by kernel_rfl) (by kernel_rfl) (by kernel_rfl) hh
def dD (b n:Nat):List Int:=if h:2≤b∧n≠0 then((n%b:Nat):Int)::dD b (n/b)else []
termination_by n
decreasing_by exact Nat.div_lt_self (by omega) (by omega)
def cQ (b:Nat):List Int→Nat
 | []=>0
 |x::r=>x.toNat+b*cQ b r
def z_ (b:Nat) (l:List Int):Prop:=∀x∈l,0≤x∧x< (b:Int)
section
variable {b:Nat}
theorem dF:dD b 0= []:=by unfold dD;simp
theorem kL (hb:2≤b) {n:Nat} (h:n≠0):dD b n=((n%b:Nat):Int)::dD b (n/b):=by
 rw [dD,dif_pos ⟨hb,h⟩]
theorem E2 (hb:2≤b) (n:Nat):cQ b (dD b n)=n:=by
 induction n using Nat.strongRecOn with
 |ind n ih=>
  by_cases h:n=0
  ·subst h;rw [dF];rfl
  ·rw [kL hb h];show(((n%b:Nat):Int)).toNat+b*cQ b (dD b (n/b))=n;rw [ih _ (Nat.div_lt_self (by omega) (by omega)),Int.toNat_natCast];exact Nat.mod_add_div n b
theorem FQ (hb:2≤b) (n i:Nat):(dD b n)[i]? =if b^i≤n then some ((n/b^i%b:Nat):Int)else none:=by
 induction i generalizing n with
 |zero=>
  by_cases h:n=0
  ·subst h;rw [dF];simp
  ·rw [kL hb h,if_pos (by simp;omega)];simp
 |succ i ih=>
  by_cases h:n=0
  ·subst h;rw [dF,if_neg (by have:=Nat.pow_pos (a:=b) (n:=i+1) (by omega);omega)];simp
  ·rw [kL hb h,List.getElem?_cons_succ,ih];have e:b^i≤n/b↔b^(i+1)≤n:=by
    rw [Nat.le_div_iff_mul_le (by omega),Nat.pow_succ]
   rw [Nat.div_div_eq_div_mul,Nat.mul_comm b, ←Nat.pow_succ];simp only [e]
theorem gG (hb:2≤b) (n i:Nat):i< (dD b n).length↔b^i≤n:=by
 have h:=FQ hb n i;by_cases hi:b^i≤n
 ·rw [if_pos hi]at h;exact iff_of_true (List.getElem?_eq_some_iff.1 h).1 hi
 ·rw [if_neg hi]at h;exact iff_of_false (by have:=List.getElem?_eq_none_iff.1 h;omega) hi
theorem gL (hb:2≤b) {n i:Nat} (h:i< (dD b n).length):(dD b n)[i]=((n/b^i%b:Nat):Int):=by
 have e:=FQ hb n i;rw [if_pos ((gG hb n i).1 h),List.getElem?_eq_getElem h]at e;exact Option.some.inj e
theorem dT (hb:2≤b) {n i:Nat} (h:(dD b n).length≤i):n/b^i=0∧n%b^i=n:=by
 have:n<b^i:=Nat.lt_of_not_le fun hh=>by
  have:=(gG hb n i).2 hh;omega
 exact⟨Nat.div_eq_of_lt this,Nat.mod_eq_of_lt this⟩
theorem CY (hb:2≤b) {n:Nat}:dD b n= []↔n=0:=by
 constructor
 ·intro h;have:=E2 hb n;rw [h]at this;exact this.symm
 ·rintro rfl;exact dF
theorem CZ (hb:2≤b):∀l:List Int,z_ b l→(∀x,l.getLast?=some x→x≠0)→dD b (cQ b l)=l
 | [],_,_=>dF
 |x::r,hr,hl=>by
  have hx:=hr x (by simp);have ih:dD b (cQ b r)=r:=CZ hb r (fun y hy=>hr y (by simp [hy])) fun y hy=>by
   cases r with
   |nil=>cases hy
   |cons z r=>exact hl y (by rw [List.getLast?_cons_cons];exact hy)
  have hne:x.toNat+b*cQ b r≠0:=by
   intro h0;have h1:x=0:=by omega
   have h2:b*cQ b r=0:=by omega
   have h3:cQ b r=0:=by
    rcases Nat.mul_eq_zero.1 h2 with h |h
    ·omega
    ·exact h
   rw [h3,dF]at ih;rw [←ih]at hl;exact hl x rfl h1
  show dD b (x.toNat+b*cQ b r)=x::r;rw [kL hb hne,Nat.add_mul_mod_self_left,Nat.mod_eq_of_lt (by omega),Nat.add_mul_div_left _ _ (by omega),Nat.div_eq_of_lt (by omega),Nat.zero_add,ih];congr 1;omega
theorem gq (l r:List Int):cQ b (l++r)=cQ b l+b^l.length*cQ b r:=by
 induction l with
 |nil=>simp [cQ]
 |cons x l ih=>
  rw [List.cons_append];show x.toNat+b*cQ b (l++r)=x.toNat+b*cQ b l+b^(l.length+1)*cQ b r;rw [ih,Nat.mul_add,Nat.pow_succ,Nat.mul_comm (b^l.length) b,Nat.mul_assoc];omega
theorem mR (x:Nat):cQ b [(x:Int)]=x:=by simp [cQ]
theorem rx:∀l:List Int,(∀x∈l,x=0)→cQ b l=0
 | [],_=>rfl
 |x::r,h=>by
  show x.toNat+b*cQ b r=0;rw [h x (by simp),rx r fun y hy=>h y (by simp [hy])];simp
theorem sj (hb:2≤b) {m n:Nat} (h:m≤n):(dD b m).length≤(dD b n).length:=by
 refine Nat.le_of_not_lt fun hlt=>?_;have:=(gG hb m _).1 hlt;have:=(gG hb n (dD b n).length).2 (by omega);omega
theorem zC (hb:2≤b) {l:List Int} (hr:z_ b l) {k:Nat} (hk:k≤l.length) (h0:∀(j:Nat) (hj:j<l.length),k≤j→l[j]=0) (h1:∀(hk:k-1<l.length),0<k→l[k-1]≠0):l.take k=dD b (cQ b l):=by
 have e:cQ b l=cQ b (l.take k):=by
  conv=>lhs;rw [←List.take_append_drop k l]
  rw [gq,rx (l.drop k),Nat.mul_zero,Nat.add_zero];intro x hx;obtain⟨j,hj,rfl⟩:=List.getElem_of_mem hx;rw [List.getElem_drop];rw [List.length_drop]at hj;exact h0 _ (by omega) (by omega)
 rw [e,CZ hb]
 ·intro x hx;exact hr x (List.mem_of_mem_take hx)
 ·intro x hx;rw [List.getLast?_eq_getElem?,List.length_take,Nat.min_eq_left hk,List.getElem?_take]at hx;split at hx
  ·rename_i hlt;rw [List.getElem?_eq_getElem (by omega)]at hx;cases hx;exact h1 (by omega) (by omega)
  ·cases hx
theorem kB {l:List Int} (h:z_ b l) {x:Nat} (hx:x<b):z_ b (l++ [(x:Int)]):=by
 intro y hy;rcases List.mem_append.1 hy with hy |hy
 ·exact h y hy
 ·rw [List.mem_singleton.1 hy];omega
theorem xj {L:List Int} {i x y c:Nat} (hL:L.length=i) (hI:cQ b L+c*b^i=x%b^i+y%b^i) {s:Nat} (hs:s=x/b^i%b+y/b^i%b+c):cQ b (L++ [((s%b:Nat):Int)])+s/b*b^(i+1)=x%b^(i+1)+y%b^(i+1):=by
 rw [gq,mR,hL,Nat.mod_pow_succ,Nat.mod_pow_succ];have e:s=s%b+b*(s/b):=(Nat.mod_add_div s b).symm;have e2:b^i*(s%b)+s/b*b^(i+1)=b^i*s:=by
  conv=>rhs;rw [e]
  rw [Nat.mul_add,Nat.pow_succ,Nat.mul_comm (s/b),Nat.mul_assoc]
 have e3:b^i*s=b^i*(x/b^i%b)+b^i*(y/b^i%b)+c*b^i:=by
  rw [hs,Nat.mul_add,Nat.mul_add,Nat.mul_comm (b^i) c]
 omega
theorem Bj {L:List Int} {i x n c:Nat} (hL:L.length=i) (hI:cQ b L+c*b^i=x%b^i*n) {s:Nat} (hs:s=x/b^i%b*n+c):cQ b (L++ [((s%b:Nat):Int)])+s/b*b^(i+1)=x%b^(i+1)*n:=by
 rw [gq,mR,hL,Nat.mod_pow_succ];have e:s=s%b+b*(s/b):=(Nat.mod_add_div s b).symm;have e2:b^i*(s%b)+s/b*b^(i+1)=b^i*s:=by
  conv=>rhs;rw [e]
  rw [Nat.mul_add,Nat.pow_succ,Nat.mul_comm (s/b),Nat.mul_assoc]
 have e3:b^i*s=b^i*(x/b^i%b)*n+c*b^i:=by
  rw [hs,Nat.mul_add,Nat.mul_comm (b^i) c,Nat.mul_assoc]
 rw [Nat.add_mul];omega
theorem uQ (x i:Nat):x/b^i=b*(x/b^(i+1))+x/b^i%b:=by
 rw [Nat.pow_succ, ←Nat.div_div_eq_div_mul];exact(Nat.div_add_mod (x/b^i) b).symm
theorem DD (hb:2≤b) {x n i rest q:Nat} (hn:0<n) (hI:q*n+rest=x/b^(i+1)) (hr:rest<n) {s:Nat} (hs:s=rest*b+x/b^i%b):(b*q+s/n)*n+s%n=x/b^i∧s%n<n∧s/n<b:=by
 refine⟨?_,Nat.mod_lt _ hn,?_⟩
 ·rw [uQ x i, ←hI,Nat.add_mul,Nat.add_assoc,Nat.mul_comm (s/n) n,Nat.div_add_mod,hs,Nat.mul_add,Nat.mul_assoc,Nat.mul_comm rest b];omega
 ·rw [Nat.div_lt_iff_lt_mul hn,hs];have h1:=Nat.mod_lt (x/b^i) (show 0<b by omega);have h2:rest*b+b≤n*b:=by
   rw [←Nat.succ_mul];exact Nat.mul_le_mul_right _ hr
  rw [Nat.mul_comm b n];omega
theorem wJ {x y i:Nat} (hI:x/b^(i+1)=y/b^(i+1)):(x/b^i%b<y/b^i%b→x<y)∧(x/b^i%b=y/b^i%b→x/b^i=y/b^i):=by
 have ex:=uQ (b:=b) x i;have ey:=uQ (b:=b) y i;rw [hI]at ex;refine⟨fun h=>?_,fun h=>by omega⟩;have h1:x/b^i<y/b^i:=by omega
 refine Nat.lt_of_not_le fun h2=>?_;have:=Nat.div_le_div_right (c:=b^i) h2;omega
theorem CF (hb:2≤b) {x y:Nat} (h:(dD b x).length< (dD b y).length):x<y:=by
 have h1:=(gG hb y _).1 h;have h2:¬b^(dD b x).length≤x:=fun hh=>by
  have:=(gG hb x _).2 hh;omega
 omega
end
end Go.Proofs.YtdlcfegnaphclaaGreat.Eng
