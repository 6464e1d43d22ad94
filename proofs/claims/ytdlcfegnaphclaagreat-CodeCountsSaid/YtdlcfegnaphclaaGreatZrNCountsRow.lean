/- The row and the tied card of CodeCounts. -/
import Derived.Test.YtdlcfegnaphclaaGreatZrNm
import Derived.Test.YtdlcfegnaphclaaGreatRows
import Derived.Test.YtdlcfegnaphclaaGreatChecked
import Derived.WalkKit
import Derived.ProofKit
import Derived.OpenShut
import Derived.ShutString
import Derived.ChangeOld
import Derived.SizedLaws
import Derived.Lay
import Derived.ChangeSlices
import Derived.SliceStrings
import Derived.Carry
import Derived.SevenTiedAt
import Derived.Stop.LaidErr
set_option linter.unusedVariables false
namespace Go.Proofs.YtdlcfegnaphclaaGreat.CodeCountsRow
open Go Go.ChangeShapes Go.WideShapes Go.ChangeAt Go.RowKit
open Go.ChangeMaps (open_string shut_string)
theorem own:ownKnob Tryz.prog.godebug=none:=by kernel_rfl
theorem laidOut:laidOutB Tryz.prog=true:=by kernel_rfl
set_option maxRecDepth 100000 in
theorem lifted (os:Os) (started:os.Started) (H:Type) (enc:TypeId×Value→H):
  ReturnsInHanded {} Tryz.checked os 7 .any (fun w args=>Rows.codeCountsSpec.pre enc Tryz.prog Tryz.f7 [] false w args∧sizedMet enc Tryz.prog Tryz.f7 (OpenSpec.ofChange Rows.codeCountsSpec) false w args)
   (Rows.codeCountsSpec.post enc Tryz.prog Tryz.f7 false true false false):=by
 refine Eng.Cm (C:=Tryz.checked) own started (by kernel_rfl) Tryz.func7
  (ChangeSpec.witness_shaped (enc:=enc) (C:=Tryz.checked) (os:=os) (X:=fun _ _=>True) false (World.laidAll Tryz.prog os Rows.codeCountsRow.laid) #[.agg #[.slice none 0 0,.slice none 0 0,.slice none 0 0,.slice none 0 0],.int .u8 0] 8 (World.laidAll_os _ _ _)
   (World.shaped_of_ZipB (by kernel_rfl) (by kernel_rfl)) (by kernel_rfl) (by kernel_rfl) (by kernel_rfl)
   trivial) ?_
 intro W base args ds gs before hval0 hW _ hShape
 have hval:∀(j:Nat) t v,Tryz.f7.params[j]? =some t→args[j]? =some v→Value.okWide Tryz.prog W .any base t v:=hval0
 have hW':=hW
 obtain⟨p,q,hA0,hV,rfl,_,_⟩:=hW
 have hA:DataW.TrodAll enc Tryz.prog W 0 (fun _=>true) true Tryz.f7.params.toList args.toList ds p:=hA0
 rw [Tryz.params7]at hA hval
 obtain⟨v0,vs0,d0,ds0,p0,q0,hargs,rfl,rfl,h0,r0⟩:=trodAll_cons hA
 obtain⟨v1,vs1,d1,ds1,p1,q1,rfl,rfl,rfl,h1,r1⟩:=trodAll_cons r0
 obtain⟨rfl,rfl,rfl⟩:=trodAll_nil r1
 obtain rfl:args= #[v0,v1]:=by cases args;simp_all
 obtain⟨rfl,rfl⟩:=trodVars_none hV
 have k0:=h0
 have lt0:∀x∈p0,x.block<W.heap.size:=by obtain⟨m,hm⟩:=k0;exact DataW.trod_lt m _ _ _ hm
 obtain⟨y0,ls0,cs0,js0,xs0,rfl,a0⟩:=Eng.DL (hval 0 27 v0 rfl rfl) h0
 obtain⟨a1,rfl,rfl,rfl,y1⟩:=open_int Tryz.underlying5 (hval 1 5 v1 rfl rfl) h1
 obtain⟨m1,rfl⟩:∃m:Nat,a1=(m:Int):=⟨a1.toNat,by have:=(Eng.Nz y1).1;omega⟩
 refine(Eng.pF W y0 ls0 cs0 js0 xs0 a0 m1).mono fun e W' ⟨he,bel⟩=>?_
 subst he
 exact⟨_,rfl,_,_,_,[],_,[],hW',trodAll_mk1 (shut_bool Tryz.underlying4 _),(trodAll_cons_mk (Below.trod laidOut (by kernel_rfl) (of_decide_eq_true (by kernel_rfl)) k0 bel lt0) (trodAll_cons_mk (shut_int Tryz.underlying5 y1) trodAll_mk0)),rfl,bel.frame _,fun h=>by cases h⟩
theorem rNamed:Tryz.pinned.checked.prog.funcNamed Rows.codeCountsRow.func=some 7:=by kernel_rfl
theorem rIn:(Rows.codeCountsRow.inPlace==Tryz.pinned.checked.prog.inPlace 7)=true:=by kernel_rfl
theorem rUn:(Rows.codeCountsRow.unfollowed==Tryz.pinned.checked.prog.unfollowed 7)=true:=by kernel_rfl
theorem rRec:(Rows.codeCountsRow.recurses==Tryz.pinned.checked.prog.recurses 7)=true:=by kernel_rfl
theorem rVars:(Rows.codeCountsRow.named==Tryz.pinned.checked.prog.varsNamed 7)=true:=by kernel_rfl
theorem closed:joinedFacts Tryz.pinned.checked.prog 7 Tryz.f7 Rows.codeCountsSpec Rows.codeCountsRow=true:=by
 rw [joinedFacts,rIn,rUn,rRec,rVars]
 kernel_rfl
theorem holds:Rows.CodeCountsSaid:=
 OpenClaim.holds_of_wide 7 Tryz.f7 rfl rfl rfl rfl rfl rfl rfl ⟨rfl,rfl,rfl,rfl,rfl⟩ rfl rfl rfl rfl rfl rNamed Tryz.func7 closed
  (of_decide_eq_true (by kernel_rfl)) (by unfold Func.isWrapper;first |(rw [if_pos (by decide+kernel)];kernel_rfl) |(rw [if_neg (by decide+kernel)];exact⟨rfl,rfl⟩))
  (fun os started H enc _=>lifted os started H enc)
end Go.Proofs.YtdlcfegnaphclaaGreat.CodeCountsRow
