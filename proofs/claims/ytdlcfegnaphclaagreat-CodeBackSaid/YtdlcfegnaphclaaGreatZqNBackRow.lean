/- The row and the tied card of CodeBack. -/
import Derived.Test.YtdlcfegnaphclaaGreatZqNm
import Derived.Test.YtdlcfegnaphclaaGreatRows
import Derived.Test.YtdlcfegnaphclaaGreatChecked
import Derived.WalkKit
import Derived.ProofKit
import Derived.OpenShut
import Derived.ShutString
import Derived.ChangeOld
import Derived.SizedLaws
import Derived.Lay
import Derived.ChangeSlices
import Derived.SliceStrings
import Derived.Carry
import Derived.SevenTiedAt
import Derived.Stop.LaidErr
set_option linter.unusedVariables false
namespace Go.Proofs.YtdlcfegnaphclaaGreat.CodeBackRow
open Go Go.ChangeShapes Go.WideShapes Go.ChangeAt Go.RowKit
open Go.ChangeMaps (open_string shut_string)
theorem own:ownKnob Tryz.prog.godebug=none:=by kernel_rfl
theorem laidOut:laidOutB Tryz.prog=true:=by kernel_rfl
set_option maxRecDepth 100000 in
theorem lifted (os:Os) (started:os.Started) (H:Type) (enc:TypeId×Value→H):
  ReturnsInHanded {} Tryz.checked os 8 .any (fun w args=>Rows.codeBackSpec.pre enc Tryz.prog Tryz.f8 [] false w args∧sizedMet enc Tryz.prog Tryz.f8 (OpenSpec.ofChange Rows.codeBackSpec) false w args)
   (Rows.codeBackSpec.post enc Tryz.prog Tryz.f8 false true false false):=by
 refine Eng.Bl (C:=Tryz.checked) own started (by kernel_rfl) Tryz.func8
  (ChangeSpec.witness_shaped (enc:=enc) (C:=Tryz.checked) (os:=os) (X:=fun _ _=>True) false (World.laidAll Tryz.prog os Rows.codeBackRow.laid) #[.agg #[.slice none 0 0,.slice none 0 0,.slice none 0 0,.slice none 0 0],.int .u8 0,.slice none 0 0,.slice none 0 0] 8 (World.laidAll_os _ _ _)
   (World.shaped_of_ZipB (by kernel_rfl) (by kernel_rfl)) (by kernel_rfl) (by kernel_rfl) (by kernel_rfl)
   trivial) ?_
 intro W base args ds gs before hval0 hW _ hShape
 have hval:∀(j:Nat) t v,Tryz.f8.params[j]? =some t→args[j]? =some v→Value.okWide Tryz.prog W .any base t v:=hval0
 have hW':=hW
 obtain⟨p,q,hA0,hV,rfl,_,_⟩:=hW
 have hA:DataW.TrodAll enc Tryz.prog W 0 (fun _=>true) true Tryz.f8.params.toList args.toList ds p:=hA0
 rw [Tryz.params8]at hA hval
 obtain⟨v0,vs0,d0,ds0,p0,q0,hargs,rfl,rfl,h0,r0⟩:=trodAll_cons hA
 obtain⟨v1,vs1,d1,ds1,p1,q1,rfl,rfl,rfl,h1,r1⟩:=trodAll_cons r0
 obtain⟨v2,vs2,d2,ds2,p2,q2,rfl,rfl,rfl,h2,r2⟩:=trodAll_cons r1
 obtain⟨v3,vs3,d3,ds3,p3,q3,rfl,rfl,rfl,h3,r3⟩:=trodAll_cons r2
 obtain⟨rfl,rfl,rfl⟩:=trodAll_nil r3
 obtain rfl:args= #[v0,v1,v2,v3]:=by cases args;simp_all
 obtain⟨rfl,rfl⟩:=trodVars_none hV
 have k0:=h0
 have lt0:∀x∈p0,x.block<W.heap.size:=by obtain⟨m,hm⟩:=k0;exact DataW.trod_lt m _ _ _ hm
 obtain⟨y0,ls0,cs0,js0,xs0,rfl,a0⟩:=Eng.Fe (hval 0 27 v0 rfl rfl) h0
 obtain⟨a1,rfl,rfl,rfl,y1⟩:=open_int Tryz.underlying5 (hval 1 5 v1 rfl rfl) h1
 have k2:=h2
 have lt2:∀x∈p2,x.block<W.heap.size:=by obtain⟨m,hm⟩:=k2;exact DataW.trod_lt m _ _ _ hm
 obtain⟨sA2,sN2,sC2,rfl⟩:=okWide_slice Tryz.underlying86 (hval 2 86 v2 rfl rfl)
 obtain⟨us2,rfl,in2,row2⟩:=Eng.uA h2
 have k3:=h3
 have lt3:∀x∈p3,x.block<W.heap.size:=by obtain⟨m,hm⟩:=k3;exact DataW.trod_lt m _ _ _ hm
 obtain⟨sA3,sN3,sC3,rfl⟩:=okWide_slice Tryz.underlying86 (hval 3 86 v3 rfl rfl)
 obtain⟨us3,rfl,in3,row3⟩:=Eng.uA h3
 obtain⟨m1,rfl⟩:∃m:Nat,a1=(m:Int):=⟨a1.toNat,by have:=(Eng.Nu y1).1;omega⟩
 refine(Eng.tw W y0 ls0 cs0 js0 xs0 a0 m1 sA2 sC2 us2 row2 in2 sA3 sC3 us3 row3 in3).mono fun e W' ⟨he,bel⟩=>?_
 subst he
 exact⟨_,rfl,_,_,_,[],_,[],hW',trodAll_mk1 (shut_bool Tryz.underlying4 _),(trodAll_cons_mk (Below.trod laidOut (by kernel_rfl) (of_decide_eq_true (by kernel_rfl)) k0 bel lt0) (trodAll_cons_mk (shut_int Tryz.underlying5 y1) (trodAll_cons_mk (Below.trod laidOut (by kernel_rfl) (of_decide_eq_true (by kernel_rfl)) k2 bel lt2) (trodAll_cons_mk (Below.trod laidOut (by kernel_rfl) (of_decide_eq_true (by kernel_rfl)) k3 bel lt3) trodAll_mk0)))),rfl,bel.frame _,fun h=>by cases h⟩
theorem rNamed:Tryz.pinned.checked.prog.funcNamed Rows.codeBackRow.func=some 8:=by kernel_rfl
theorem rIn:(Rows.codeBackRow.inPlace==Tryz.pinned.checked.prog.inPlace 8)=true:=by kernel_rfl
theorem rUn:(Rows.codeBackRow.unfollowed==Tryz.pinned.checked.prog.unfollowed 8)=true:=by kernel_rfl
theorem rRec:(Rows.codeBackRow.recurses==Tryz.pinned.checked.prog.recurses 8)=true:=by kernel_rfl
theorem rVars:(Rows.codeBackRow.named==Tryz.pinned.checked.prog.varsNamed 8)=true:=by kernel_rfl
theorem closed:joinedFacts Tryz.pinned.checked.prog 8 Tryz.f8 Rows.codeBackSpec Rows.codeBackRow=true:=by
 rw [joinedFacts,rIn,rUn,rRec,rVars]
 kernel_rfl
theorem holds:Rows.CodeBackSaid:=
 OpenClaim.holds_of_wide 8 Tryz.f8 rfl rfl rfl rfl rfl rfl rfl ⟨rfl,rfl,rfl,rfl,rfl⟩ rfl rfl rfl rfl rfl rNamed Tryz.func8 closed
  (of_decide_eq_true (by kernel_rfl)) (by unfold Func.isWrapper;first |(rw [if_pos (by decide+kernel)];kernel_rfl) |(rw [if_neg (by decide+kernel)];exact⟨rfl,rfl⟩))
  (fun os started H enc _=>lifted os started H enc)
end Go.Proofs.YtdlcfegnaphclaaGreat.CodeBackRow
