/- For every input the statement WorkTells of chapter 20 answers true, and what it was given reads as it did. Conditions: none. -/
import Derived.Lib.SmallJoins
import Derived.Test.YthidhledenklhaaGreatRows
import Derived.Test.YthidhledenklhaaGreatW3C20t
namespace Go.Proofs.YthidhledenklhaaGreat.VL
open Go Go.Joins Go.ChangeShapes Go.WideShapes Go.ChangeAt Go.RowKit
set_option linter.unusedVariables false
set_option linter.unusedSimpArgs false
set_option maxRecDepth 100000
theorem ownK:ownKnob Tryz.prog.godebug=none:=by kernel_rfl
theorem laid:laidOutB Tryz.prog=true:=by kernel_rfl
@[reducible] def val0:Val:=⟨fun _=>1,fun _ _=>by decide,fun _=>false,fun _=>⟨#[]⟩⟩
theorem workTells_lifted (os:Os) (started:os.Started) (H:Type) (enc:TypeId×Value→H) :
  ReturnsInHanded {} Tryz.checked os 7 .any (Rows.workTellsSpec.pre6 enc Tryz.prog Tryz.f7 Rows.workTellsRow.domain false) (Rows.workTellsSpec.post enc Tryz.prog Tryz.f7 false true false false):=by
 refine returnsInHanded_of_change (C:=Tryz.checked) ownK started (by kernel_rfl) Tryz.func7
  (ChangeSpec.witness6 (enc:=enc) (C:=Tryz.checked) false ⟨#[],#[.agg #[.int .i64 0,.int .i64 0,.int .i64 0,.int .u64 0,.slice none 0 0,.slice none 0 0,.int .i64 0,.int .i64 0,.int .i64 0,.int .i64 0,.int .u64 0,.int .i64 0,.int .u64 0,.int .i64 0,.slice none 0 0,.slice none 0 0,.int .u64 0,.int .u64 0,.int .i64 0,.string ⟨#[]⟩,.int .u64 0,.bool false,.string ⟨#[]⟩,.bool false]],[]⟩ 20 (by kernel_rfl) (by kernel_rfl) (by kernel_rfl) (by kernel_rfl)) ?_
 intro W base args ds gs before hval0 hW hcnd _
 letI:Val:=val0
 have hF:∀ v:DT ((.co (.v (.p (.i .i64) (.p (.i .i64) (.p (.i .i64) (.p (.i .u64) (.p (.sl (.p .s (.p (.i .u64) (.i .i64)))) (.p (.sl (.p .s (.p (.i .u64) (.p .b .b)))) (.p (.i .i64) (.p (.i .i64) (.p (.i .i64) (.p (.i .i64) (.p (.i .u64) (.p (.i .i64) (.p (.i .u64) (.p (.i .i64) (.p (.sl (.p (.i .i64) (.p (.i .u64) (.i .i64)))) (.p (.sl (.p (.i .u64) (.i .i64))) (.p (.i .u64) (.p (.i .u64) (.p (.i .i64) (.p .s (.p (.i .u64) (.p .b (.p .s .b)))))))))))))))))))))))) .no):Fm).den,WfF (.co (.v (.p (.i .i64) (.p (.i .i64) (.p (.i .i64) (.p (.i .u64) (.p (.sl (.p .s (.p (.i .u64) (.i .i64)))) (.p (.sl (.p .s (.p (.i .u64) (.p .b .b)))) (.p (.i .i64) (.p (.i .i64) (.p (.i .i64) (.p (.i .i64) (.p (.i .u64) (.p (.i .i64) (.p (.i .u64) (.p (.i .i64) (.p (.sl (.p (.i .i64) (.p (.i .u64) (.i .i64)))) (.p (.sl (.p (.i .u64) (.i .i64))) (.p (.i .u64) (.p (.i .u64) (.p (.i .i64) (.p .s (.p (.i .u64) (.p .b (.p .s .b)))))))))))))))))))))))) .no) v→F7 v=some true:=by
  rintro ⟨T1,T2,T3,wb,js,ks,now,kd,fr,to,sq,wh,ki,kt,nw,tb,ep,bt,ak,tk,tn,gg,tx,gd⟩ ⟨⟨_,_,_,_,hj,hk,_,_,_,_,_,_,_,_,_,_,_,_,_,htk,_⟩,_⟩
  exact F7_ok (m:=(kd,fr,to,sq,wh,ki,kt,nw,tb,ep,bt,ak,tk,tn,gg)) hj.1 hk.1 (fun x hx=>(hj.2 x hx).1) (fun x hx=>(hk.2 x hx).1) htk
 have hW':DataW.Whole enc Tryz.prog Tryz.f7.params.toList Rows.workTellsSpec.vars false W args.toList ds gs before:=hW
 obtain ⟨p,q,hA0,hV,_,_,_⟩:=hW
 have hA:DataW.TrodAll enc Tryz.prog W 0 (fun _=>true) true Tryz.f7.params.toList args.toList ds p:=hA0
 rw [Tryz.params7] at hA
 obtain ⟨v0,vs0,d0,ds0,p0,q0,ea0,rfl,rfl,h0,hA⟩:=trodAll_cons hA
 obtain ⟨rfl,rfl,rfl⟩:=trodAll_nil hA
 obtain ⟨rfl,rfl⟩:=trodVars_none hV
 exact law_tail laid pe7_ok hF (d:=20) (tb:=4) (by kernel_rfl) rfl Tryz.underlying4 rfl (by kernel_rfl) hval0 hW' rfl
theorem workTells_holds:Rows.WorkTellsSaid :=
 OpenClaim.holds_of_wide 7 Tryz.f7 rfl rfl rfl rfl rfl rfl rfl ⟨rfl,rfl,rfl,rfl,rfl⟩ rfl rfl rfl rfl rfl (by kernel_rfl) Tryz.func7 (by kernel_rfl)
  (of_decide_eq_true (by kernel_rfl)) (by unfold Func.isWrapper; first | (rw [if_pos (by decide +kernel)]; kernel_rfl) | (rw [if_neg (by decide +kernel)]; exact ⟨rfl,rfl⟩))
  (fun os started H enc _=>workTells_lifted os started H enc)
end Go.Proofs.YthidhledenklhaaGreat.VL
