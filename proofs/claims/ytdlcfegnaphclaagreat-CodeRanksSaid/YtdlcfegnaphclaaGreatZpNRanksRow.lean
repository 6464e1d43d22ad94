/- The row and the tied card of CodeRanks. -/
import Derived.Test.YtdlcfegnaphclaaGreatZpNm
import Derived.Test.YtdlcfegnaphclaaGreatRows
import Derived.Test.YtdlcfegnaphclaaGreatChecked
import Derived.WalkKit
import Derived.ProofKit
import Derived.OpenShut
import Derived.ShutString
import Derived.ChangeOld
import Derived.SizedLaws
import Derived.Lay
import Derived.ChangeSlices
import Derived.SliceStrings
import Derived.Carry
import Derived.SevenTiedAt
import Derived.Stop.LaidErr
set_option linter.unusedVariables false
namespace Go.Proofs.YtdlcfegnaphclaaGreat.CodeRanksRow
open Go Go.ChangeShapes Go.WideShapes Go.ChangeAt Go.RowKit
open Go.ChangeMaps (open_string shut_string)
theorem own:ownKnob Tryz.prog.godebug=none:=by kernel_rfl
theorem laidOut:laidOutB Tryz.prog=true:=by kernel_rfl
set_option maxRecDepth 100000 in
theorem lifted (os:Os) (started:os.Started) (H:Type) (enc:TypeId×Value→H):
  ReturnsInHanded {} Tryz.checked os 9 .any (fun w args=>Rows.codeRanksSpec.pre enc Tryz.prog Tryz.f9 [] false w args∧sizedMet enc Tryz.prog Tryz.f9 (OpenSpec.ofChange Rows.codeRanksSpec) false w args)
   (Rows.codeRanksSpec.post enc Tryz.prog Tryz.f9 false true false false):=by
 refine Eng.BT (C:=Tryz.checked) own started (by kernel_rfl) Tryz.func9
  (ChangeSpec.witness_shaped (enc:=enc) (C:=Tryz.checked) (os:=os) (X:=fun _ _=>True) false (World.laidAll Tryz.prog os Rows.codeRanksRow.laid) #[.agg #[.slice none 0 0,.slice none 0 0,.slice none 0 0,.slice none 0 0],.slice none 0 0,.int .u8 0] 8 (World.laidAll_os _ _ _)
   (World.shaped_of_ZipB (by kernel_rfl) (by kernel_rfl)) (by kernel_rfl) (by kernel_rfl) (by kernel_rfl)
   trivial) ?_
 intro W base args ds gs before hval0 hW _ hShape
 have hval:∀(j:Nat) t v,Tryz.f9.params[j]? =some t→args[j]? =some v→Value.okWide Tryz.prog W .any base t v:=hval0
 have hW':=hW
 obtain⟨p,q,hA0,hV,rfl,_,_⟩:=hW
 have hA:DataW.TrodAll enc Tryz.prog W 0 (fun _=>true) true Tryz.f9.params.toList args.toList ds p:=hA0
 rw [Tryz.params9]at hA hval
 obtain⟨v0,vs0,d0,ds0,p0,q0,hargs,rfl,rfl,h0,r0⟩:=trodAll_cons hA
 obtain⟨v1,vs1,d1,ds1,p1,q1,rfl,rfl,rfl,h1,r1⟩:=trodAll_cons r0
 obtain⟨v2,vs2,d2,ds2,p2,q2,rfl,rfl,rfl,h2,r2⟩:=trodAll_cons r1
 obtain⟨rfl,rfl,rfl⟩:=trodAll_nil r2
 obtain rfl:args= #[v0,v1,v2]:=by cases args;simp_all
 obtain⟨rfl,rfl⟩:=trodVars_none hV
 have k0:=h0
 have lt0:∀x∈p0,x.block<W.heap.size:=by obtain⟨m,hm⟩:=k0;exact DataW.trod_lt m _ _ _ hm
 obtain⟨y0,ls0,cs0,js0,xs0,rfl,a0⟩:=Eng.Ey (hval 0 27 v0 rfl rfl) h0
 have k1:=h1
 have lt1:∀x∈p1,x.block<W.heap.size:=by obtain⟨m,hm⟩:=k1;exact DataW.trod_lt m _ _ _ hm
 obtain⟨sA1,sN1,sC1,rfl⟩:=okWide_slice Tryz.underlying28 (hval 1 28 v1 rfl rfl)
 obtain⟨ids1,rfl,ok1,le1,mx1,row1⟩:=Eng.Ej h1
 obtain⟨a2,rfl,rfl,rfl,y2⟩:=open_int Tryz.underlying5 (hval 2 5 v2 rfl rfl) h2
 obtain⟨m2,rfl⟩:∃m:Nat,a2=(m:Int):=⟨a2.toNat,by have:=(Eng.Mb y2).1;omega⟩
 refine(Eng.sL W y0 ls0 cs0 js0 xs0 a0 sA1 sC1 ids1 row1 le1 m2).mono fun e W' ⟨he,bel⟩=>?_
 subst he
 exact⟨_,rfl,_,_,_,[],_,[],hW',trodAll_mk1 (shut_bool Tryz.underlying4 _),(trodAll_cons_mk (Below.trod laidOut (by kernel_rfl) (of_decide_eq_true (by kernel_rfl)) k0 bel lt0) (trodAll_cons_mk (Below.trod laidOut (by kernel_rfl) (of_decide_eq_true (by kernel_rfl)) k1 bel lt1) (trodAll_cons_mk (shut_int Tryz.underlying5 y2) trodAll_mk0))),rfl,bel.frame _,fun h=>by cases h⟩
theorem rNamed:Tryz.pinned.checked.prog.funcNamed Rows.codeRanksRow.func=some 9:=by kernel_rfl
theorem rIn:(Rows.codeRanksRow.inPlace==Tryz.pinned.checked.prog.inPlace 9)=true:=by kernel_rfl
theorem rUn:(Rows.codeRanksRow.unfollowed==Tryz.pinned.checked.prog.unfollowed 9)=true:=by kernel_rfl
theorem rRec:(Rows.codeRanksRow.recurses==Tryz.pinned.checked.prog.recurses 9)=true:=by kernel_rfl
theorem rVars:(Rows.codeRanksRow.named==Tryz.pinned.checked.prog.varsNamed 9)=true:=by kernel_rfl
theorem closed:joinedFacts Tryz.pinned.checked.prog 9 Tryz.f9 Rows.codeRanksSpec Rows.codeRanksRow=true:=by
 rw [joinedFacts,rIn,rUn,rRec,rVars]
 kernel_rfl
theorem holds:Rows.CodeRanksSaid:=
 OpenClaim.holds_of_wide 9 Tryz.f9 rfl rfl rfl rfl rfl rfl rfl ⟨rfl,rfl,rfl,rfl,rfl⟩ rfl rfl rfl rfl rfl rNamed Tryz.func9 closed
  (of_decide_eq_true (by kernel_rfl)) (by unfold Func.isWrapper;first |(rw [if_pos (by decide+kernel)];kernel_rfl) |(rw [if_neg (by decide+kernel)];exact⟨rfl,rfl⟩))
  (fun os started H enc _=>lifted os started H enc)
end Go.Proofs.YtdlcfegnaphclaaGreat.CodeRanksRow
