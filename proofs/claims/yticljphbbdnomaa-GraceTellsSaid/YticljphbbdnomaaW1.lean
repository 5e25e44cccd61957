/- For every input the statement GraceTells of chapter 09 answers true, and what it was given reads as it did. Conditions: none. -/
import Derived.Lib.SmallJoins
import Derived.Test.YticljphbbdnomaaRows
import Derived.Test.YticljphbbdnomaaW1J1
namespace Go.Proofs.Yticljphbbdnomaa.VL
open Go Go.Joins Go.ChangeShapes Go.WideShapes Go.ChangeAt Go.RowKit
set_option linter.unusedVariables false
set_option linter.unusedSimpArgs false
set_option maxRecDepth 100000
theorem ownK:ownKnob Try.prog.godebug=none:=by kernel_rfl
theorem laid:laidOutB Try.prog=true:=by kernel_rfl
@[reducible] def val0:Val:=⟨fun _=>1,fun _ _=>by decide,fun _=>false,fun _=>⟨#[]⟩⟩
theorem graceTells_lifted (os:Os) (started:os.Started) (H:Type) (enc:TypeId×Value→H) :
  ReturnsInHanded {} Try.checked os 8 .any (Rows.graceTellsSpec.pre6 enc Try.prog Try.f8 Rows.graceTellsRow.domain false) (Rows.graceTellsSpec.post enc Try.prog Try.f8 false true false false):=by
 refine returnsInHanded_of_change (C:=Try.checked) ownK started (by kernel_rfl) Try.func8
  (ChangeSpec.witness6 (enc:=enc) (C:=Try.checked) false ⟨#[],#[.agg #[.slice none 0 0,.int .i64 0,.int .i64 0,.int .i64 0,.int .i64 0,.int .i64 0,.int .i64 0,.int .i64 0,.int .u64 0,.int .i64 0]],[]⟩ 20 (by kernel_rfl) (by kernel_rfl) (by kernel_rfl) (by kernel_rfl)) ?_
 intro W base args ds gs before hval0 hW hcnd _
 letI:Val:=val0
 have hF:∀ v:DT ((.co (.v (.p (.sl (.p (.i .i64) (.p (.i .u64) (.p (.i .i64) (.sl (.i .i64)))))) (.p (.i .i64) (.p (.i .i64) (.p (.i .i64) (.p (.i .i64) (.p (.i .i64) (.p (.i .i64) (.p (.i .i64) (.p (.i .u64) (.i .i64))))))))))) .no):Fm).den,WfF (.co (.v (.p (.sl (.p (.i .i64) (.p (.i .u64) (.p (.i .i64) (.sl (.i .i64)))))) (.p (.i .i64) (.p (.i .i64) (.p (.i .i64) (.p (.i .i64) (.p (.i .i64) (.p (.i .i64) (.p (.i .i64) (.p (.i .u64) (.i .i64))))))))))) .no) v→F8 v=some true:=by
  rintro ⟨l,a,b,c,N,C,W,B,I,now⟩ ⟨⟨hl,_⟩,_⟩
  exact F8_ok hl.1
 have hW':DataW.Whole enc Try.prog Try.f8.params.toList Rows.graceTellsSpec.vars false W args.toList ds gs before:=hW
 obtain ⟨p,q,hA0,hV,_,_,_⟩:=hW
 have hA:DataW.TrodAll enc Try.prog W 0 (fun _=>true) true Try.f8.params.toList args.toList ds p:=hA0
 rw [Try.params8] at hA
 obtain ⟨v0,vs0,d0,ds0,p0,q0,ea0,rfl,rfl,h0,hA⟩:=trodAll_cons hA
 obtain ⟨rfl,rfl,rfl⟩:=trodAll_nil hA
 obtain ⟨rfl,rfl⟩:=trodVars_none hV
 exact law_tail laid pe8_ok hF (d:=20) (tb:=4) (by kernel_rfl) rfl Try.underlying4 rfl (by kernel_rfl) hval0 hW' rfl
theorem graceTells_holds:Rows.GraceTellsSaid :=
 OpenClaim.holds_of_wide 8 Try.f8 rfl rfl rfl rfl rfl rfl rfl ⟨rfl,rfl,rfl,rfl,rfl⟩ rfl rfl rfl rfl rfl (by kernel_rfl) Try.func8 (by kernel_rfl)
  (of_decide_eq_true (by kernel_rfl)) (by unfold Func.isWrapper; first | (rw [if_pos (by decide +kernel)]; kernel_rfl) | (rw [if_neg (by decide +kernel)]; exact ⟨rfl,rfl⟩))
  (fun os started H enc _=>graceTells_lifted os started H enc)
end Go.Proofs.Yticljphbbdnomaa.VL
