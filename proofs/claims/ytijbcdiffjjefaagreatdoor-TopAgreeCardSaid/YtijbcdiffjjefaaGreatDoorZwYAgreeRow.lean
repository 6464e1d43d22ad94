/- The row and the tied card of TopAgree. -/
import Derived.Test.YtijbcdiffjjefaaGreatDoorZwEi
import Derived.Test.YtijbcdiffjjefaaGreatDoorTie
import Derived.Test.YtijbcdiffjjefaaGreatDoorCards
import Derived.WalkKit
import Derived.ProofKit
import Derived.OpenShut
import Derived.ShutString
import Derived.ChangeOld
import Derived.SizedLaws
import Derived.Lay
import Derived.ChangeSlices
import Derived.SliceStrings
import Derived.Carry
import Derived.SevenTiedAt
import Derived.Stop.LaidErr
set_option linter.unusedVariables false
namespace Go.Proofs.YtijbcdiffjjefaaGreatDoor.TopAgreeRow
open Go Go.ChangeShapes Go.WideShapes Go.ChangeAt Go.RowKit
open Go.ChangeMaps (open_string shut_string)
theorem own:ownKnob Tryz.prog.godebug=none:=by kernel_rfl
theorem laidOut:laidOutB Tryz.prog=true:=by kernel_rfl
theorem star: "*" ++ "errors.errorString" = "*errors.errorString" :=by decide
theorem rowErr (u:TypeId) (h:Tryz.prog.typeName? 3 u=some "*errors.errorString"):u=410:=
 typeName_ptr_named (nm:= "errors.errorString") (by rw [star];kernel_rfl) (by kernel_rfl) (by decide) u (by rw [star];exact h)
theorem powTab:(Rows.laid_internal_strconv_uint64pow10:DataW Unit)=Lib.tabData .u64 Lib.pow10Tab:=by kernel_rfl
theorem gT:Tryz.prog.globalNamed "internal/strconv.uint64pow10" =some 5:=by kernel_rfl
set_option maxRecDepth 100000 in
theorem lifted (os:Os) (started:os.Started) (H:Type) (enc:TypeId×Value→H):
  ReturnsInHanded {} Tryz.checked os 4 .any (fun w args=>(Rows.topAgreeSpec.pre enc Tryz.prog Tryz.f4 [] false w args∧laidMetH Tryz.prog Rows.topAgreeRow.laid w)∧sizedMet enc Tryz.prog Tryz.f4 (OpenSpec.ofChange Rows.topAgreeSpec) false w args)
   (Rows.topAgreeSpec.post enc Tryz.prog Tryz.f4 false true false false):=by
 refine Eng.Hw (C:=Tryz.checked) own started (by kernel_rfl) Tryz.func4
  (ChangeSpec.witness_shaped (enc:=enc) (C:=Tryz.checked) (os:=os) (X:=fun w _=>laidMetH Tryz.prog Rows.topAgreeRow.laid w) false (World.laidAll Tryz.prog os Rows.topAgreeRow.laid) #[.agg #[.slice none 0 0,.slice none 0 0,.slice none 0 0,.slice none 0 0],.slice none 0 0,.slice none 0 0] 8 (World.laidAll_os _ _ _)
   (World.shaped_of_ZipB (by kernel_rfl) (by kernel_rfl)) (by kernel_rfl) (by kernel_rfl) (by kernel_rfl)
   (by rw [MakeChecks.laidMetH_plain _ _ _ (by kernel_rfl)];exact laidMet_laidAll _ (by kernel_rfl) (by kernel_rfl))) ?_
 intro W base args ds gs before hval0 hW _ hL hShape
 have hval:∀(j:Nat) t v,Tryz.f4.params[j]? =some t→args[j]? =some v→Value.okWide Tryz.prog W .any base t v:=hval0
 have hW':=hW
 obtain⟨p,q,hA0,hV,rfl,_,_⟩:=hW
 have hA:DataW.TrodAll enc Tryz.prog W 0 (fun _=>true) true Tryz.f4.params.toList args.toList ds p:=hA0
 rw [Tryz.params4]at hA hval
 obtain⟨v0,vs0,d0,ds0,p0,q0,hargs,rfl,rfl,h0,r0⟩:=trodAll_cons hA
 obtain⟨v1,vs1,d1,ds1,p1,q1,rfl,rfl,rfl,h1,r1⟩:=trodAll_cons r0
 obtain⟨v2,vs2,d2,ds2,p2,q2,rfl,rfl,rfl,h2,r2⟩:=trodAll_cons r1
 obtain⟨rfl,rfl,rfl⟩:=trodAll_nil r2
 obtain rfl:args= #[v0,v1,v2]:=by cases args;simp_all
 obtain⟨rfl,rfl⟩:=trodVars_none hV
 have k0:=h0
 have lt0:∀x∈p0,x.block<W.heap.size:=by obtain⟨m,hm⟩:=k0;exact DataW.trod_lt m _ _ _ hm
 obtain⟨y0,ls0,cs0,js0,xs0,rfl,a0⟩:=Eng.Hf (hval 0 27 v0 rfl rfl) h0
 have k1:=h1
 have lt1:∀x∈p1,x.block<W.heap.size:=by obtain⟨m,hm⟩:=k1;exact DataW.trod_lt m _ _ _ hm
 obtain⟨sA1,sN1,sC1,rfl⟩:=okWide_slice Tryz.underlying28 (hval 1 28 v1 rfl rfl)
 obtain⟨ids1,rfl,ok1,le1,mx1,row1⟩:=Eng.GB h1
 have k2:=h2
 have lt2:∀x∈p2,x.block<W.heap.size:=by obtain⟨m,hm⟩:=k2;exact DataW.trod_lt m _ _ _ hm
 obtain⟨sA2,sN2,sC2,rfl⟩:=okWide_slice Tryz.underlying57 (hval 2 57 v2 rfl rfl)
 obtain⟨ids2,rfl,ok2,le2,mx2,row2⟩:=Eng.Jv h2
 rw [MakeChecks.laidMetH_plain _ _ _ (by kernel_rfl)]at hL
 have l3:=laidMet.tail (laidMet.tail hL)
 have l5:=laidMet.tail (laidMet.tail l3)
 have l6:=laidMet.tail l5
 rw [powTab]at l3
 have hX:Eng.Mx W:=Tryz.laysM145.s1_3 W hShape
 have hT:Eng.EH W:=Lib.tabIs_of_head gT (by kernel_rfl) (t:=418) (e:=138) (n:=20) (by kernel_rfl) (by kernel_rfl) (by kernel_rfl) (by kernel_rfl) l3
 have hE:Eng.nZ W:=by
  obtain⟨e1,_,c1,_⟩:=laid_sentinel l5 (g:=4) (ti:=372) (tp:=410) (te:=412) (ts:=9) (by kernel_rfl) (by kernel_rfl) Tryz.underlying372 rowErr Tryz.underlying410 Tryz.underlying412 rfl rfl Tryz.underlying9 (by kernel_rfl) (by kernel_rfl)
  obtain⟨e2,_,c2,_⟩:=laid_sentinel l6 (g:=3) (ti:=372) (tp:=410) (te:=412) (ts:=9) (by kernel_rfl) (by kernel_rfl) Tryz.underlying372 rowErr Tryz.underlying410 Tryz.underlying412 rfl rfl Tryz.underlying9 (by kernel_rfl) (by kernel_rfl)
  exact⟨⟨_,_,c2⟩,⟨_,_,c1⟩⟩
 have hEnv:Eng.tg W:=⟨hT,hE,hX⟩
 have fin:=Eng.uD W y0 ls0 cs0 js0 xs0 a0 sA1 sC1 ids1 row1 le1 ok1 sA2 sC2 ids2 row2 hEnv
 refine fin.mono fun e W' ⟨he,bel⟩=>?_
 subst he
 exact⟨_,rfl,_,_,_,[],_,[],hW',trodAll_mk1 (shut_bool Tryz.underlying4 _),(trodAll_cons_mk (Below.trod laidOut (by kernel_rfl) (of_decide_eq_true (by kernel_rfl)) k0 bel lt0) (trodAll_cons_mk (Below.trod laidOut (by kernel_rfl) (of_decide_eq_true (by kernel_rfl)) k1 bel lt1) (trodAll_cons_mk (Below.trod laidOut (by kernel_rfl) (of_decide_eq_true (by kernel_rfl)) k2 bel lt2) trodAll_mk0))),rfl,bel.frame _,fun h=>by cases h⟩
theorem rNamed:Tryz.pinned.checked.prog.funcNamed Rows.topAgreeRow.func=some 4:=by kernel_rfl
theorem rIn:(Rows.topAgreeRow.inPlace==Tryz.pinned.checked.prog.inPlace 4)=true:=by kernel_rfl
theorem rUn:(Rows.topAgreeRow.unfollowed==Tryz.pinned.checked.prog.unfollowed 4)=true:=by kernel_rfl
theorem rRec:(Rows.topAgreeRow.recurses==Tryz.pinned.checked.prog.recurses 4)=true:=by kernel_rfl
theorem rVars:(Rows.topAgreeRow.named==Tryz.pinned.checked.prog.varsNamed 4)=true:=by kernel_rfl
theorem closed:joinedFacts Tryz.pinned.checked.prog 4 Tryz.f4 Rows.topAgreeSpec Rows.topAgreeRow=true:=by
 rw [joinedFacts,rIn,rUn,rRec,rVars]
 kernel_rfl
theorem holds:Rows.TopAgreeSaid:=
 OpenClaim.holds_of_wide 4 Tryz.f4 rfl rfl rfl rfl rfl rfl rfl ⟨rfl,rfl,rfl,rfl,rfl⟩ rfl rfl rfl rfl rfl rNamed Tryz.func4 closed
  (of_decide_eq_true (by kernel_rfl)) (by unfold Func.isWrapper;first |(rw [if_pos (by decide+kernel)];kernel_rfl) |(rw [if_neg (by decide+kernel)];exact⟨rfl,rfl⟩))
  (fun os started H enc _=>lifted os started H enc)
theorem rWf:Rows.topAgreeRow.wfByText (OpenSpec.ofChange Rows.topAgreeSpec)=true:=by kernel_rfl
theorem rMain:Tryz.pinned.checked.prog.mainIs=some (true, "25ae113e21b71e05b3795f81e78fd3fd3c72e84cdb1812e3a272ce7d6fd8dd87".toList):=by kernel_rfl
theorem rLooks:true=Tryz.pinned.checked.prog.looks []:=by kernel_rfl
theorem rGoes:false=Rows.topAgreeRow.goesBy Tryz.pinned.checked.prog:=by kernel_rfl
theorem card_holds:Rows.TopAgreeCardSaid:=
 Claim7.holds_tied_plain_at .later [] [.data,.data,.data,.data,.sentinel,.sentinel,.pinned] true (true, "25ae113e21b71e05b3795f81e78fd3fd3c72e84cdb1812e3a272ce7d6fd8dd87") true holds (fun _ h=>by cases h) rWf (fun _ h=>by cases h) topAgree_row_tie rfl ⟨rfl,rfl⟩ rMain rfl
  (fun f fn hf hfn=>by
   obtain rfl:f=4:=Option.some.inj ((show Tryz.prog.funcNamed "ligature/ligaturetop.TopAgree" =some 4 from rNamed).symm.trans hf) |>.symm
   obtain rfl:fn=Tryz.f4:=(Option.some.inj (Tryz.func4.symm.trans hfn)).symm
   exact⟨rLooks,fun j t ht=>by
    rw [Tryz.params4]at ht
    have hm:t∈ [27,28,57]:=by simpa using Array.mem_of_getElem? ht
    have hall:([27,28,57].all fun u=> !Tryz.prog.wantsStandIn u)=true:=by kernel_rfl
    exact(show Tryz.prog.wantsStandIn t=false by simpa using List.all_eq_true.1 hall t hm)⟩)
  rGoes
#print axioms holds
#print axioms card_holds
end Go.Proofs.YtijbcdiffjjefaaGreatDoor.TopAgreeRow
