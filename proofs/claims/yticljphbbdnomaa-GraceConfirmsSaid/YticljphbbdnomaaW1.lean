/- For every input the statement GraceConfirms of chapter 09 answers true, and what it was given reads as it did. Conditions: none. -/
import Derived.Lib.SmallJoins
import Derived.Test.YticljphbbdnomaaRows
import Derived.Test.YticljphbbdnomaaW1J1
namespace Go.Proofs.Yticljphbbdnomaa.VL
open Go Go.Joins Go.ChangeShapes Go.WideShapes Go.ChangeAt Go.RowKit
set_option linter.unusedVariables false
set_option linter.unusedSimpArgs false
set_option maxRecDepth 100000
theorem ownK:ownKnob Try.prog.godebug=none:=by kernel_rfl
theorem laid:laidOutB Try.prog=true:=by kernel_rfl
@[reducible] def val0:Val:=⟨fun _=>1,fun _ _=>by decide,fun _=>false,fun _=>⟨#[]⟩⟩
theorem graceConfirms_lifted (os:Os) (started:os.Started) (H:Type) (enc:TypeId×Value→H) :
  ReturnsInHanded {} Try.checked os 5 .any (Rows.graceConfirmsSpec.pre6 enc Try.prog Try.f5 Rows.graceConfirmsRow.domain false) (Rows.graceConfirmsSpec.post enc Try.prog Try.f5 false true false false):=by
 refine returnsInHanded_of_change (C:=Try.checked) ownK started (by kernel_rfl) Try.func5
  (ChangeSpec.witness6 (enc:=enc) (C:=Try.checked) false ⟨#[],#[.int .u64 0,.slice none 0 0],[]⟩ 20 (by kernel_rfl) (by kernel_rfl) (by kernel_rfl) (by kernel_rfl)) ?_
 intro W base args ds gs before hval0 hW hcnd _
 letI:Val:=val0
 have hF:∀ v:DT ((.co (.v (.i .u64)) (.co (.v (.sl (.i .u8))) .no)):Fm).den,WfF (.co (.v (.i .u64)) (.co (.v (.sl (.i .u8))) .no)) v→F5 v=some true:=by
  rintro ⟨inc,by'⟩ ⟨hi,hl,_⟩
  exact F5_ok hl.1 (fun x hx=>⟨(hl.2 x hx).1,(hl.2 x hx).2⟩)
 have hW':DataW.Whole enc Try.prog Try.f5.params.toList Rows.graceConfirmsSpec.vars false W args.toList ds gs before:=hW
 obtain ⟨p,q,hA0,hV,_,_,_⟩:=hW
 have hA:DataW.TrodAll enc Try.prog W 0 (fun _=>true) true Try.f5.params.toList args.toList ds p:=hA0
 rw [Try.params5] at hA
 obtain ⟨v0,vs0,d0,ds0,p0,q0,ea0,rfl,rfl,h0,hA⟩:=trodAll_cons hA
 obtain ⟨v1,vs1,d1,ds1,p1,q1,ea1,rfl,rfl,h1,hA⟩:=trodAll_cons hA
 obtain ⟨rfl,rfl,rfl⟩:=trodAll_nil hA
 obtain ⟨rfl,rfl⟩:=trodVars_none hV
 exact law_tail laid pe5_ok hF (d:=20) (tb:=4) (by kernel_rfl) rfl Try.underlying4 rfl (by kernel_rfl) hval0 hW' rfl
theorem graceConfirms_holds:Rows.GraceConfirmsSaid :=
 OpenClaim.holds_of_wide 5 Try.f5 rfl rfl rfl rfl rfl rfl rfl ⟨rfl,rfl,rfl,rfl,rfl⟩ rfl rfl rfl rfl rfl (by kernel_rfl) Try.func5 (by kernel_rfl)
  (of_decide_eq_true (by kernel_rfl)) (by unfold Func.isWrapper; first | (rw [if_pos (by decide +kernel)]; kernel_rfl) | (rw [if_neg (by decide +kernel)]; exact ⟨rfl,rfl⟩))
  (fun os started H enc _=>graceConfirms_lifted os started H enc)
end Go.Proofs.Yticljphbbdnomaa.VL
