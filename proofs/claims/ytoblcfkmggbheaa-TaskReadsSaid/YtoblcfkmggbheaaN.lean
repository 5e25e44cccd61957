/- For every input the statement TaskReads of chapter 19 answers true, and what it was given reads as it did. Conditions: none. -/
import Derived.Lib.SmallJoins
import Derived.Test.YtoblcfkmggbheaaRows
import Derived.Test.YtoblcfkmggbheaaNYw
namespace Go.Proofs.Ytoblcfkmggbheaa.VL
open Go Go.Joins Go.ChangeShapes Go.WideShapes Go.ChangeAt Go.RowKit
set_option linter.unusedVariables false
set_option linter.unusedSimpArgs false
set_option maxRecDepth 100000
theorem ownK : ownKnob Try.prog.godebug = none := by kernel_rfl
theorem laid : laidOutB Try.prog = true := by kernel_rfl
@[reducible] def val0 : Val := ⟨fun _ => 1, fun _ _ => by decide, fun _ => false, fun _ => ⟨#[]⟩⟩
theorem szB_of [Val] {a g : Int} {l : List TK} (h1 : l.length ≤ maxLen) (h2 : ∀ v ∈ l, WfD (.p .s (.p (.i .i64) (.p (.i .i64) (.p (.i .u64) (.p (.i .i64) (.p (.i .i64) (.i .u64))))))) v) : szB (a, (g, l)) := by
 refine ⟨h1, fun i hi => ?_⟩
 have := h2 (ta l i) (by rw [← ta_eq hi]; exact List.getElem_mem hi)
 exact ⟨this.1, this.2.2.2.1.1⟩
theorem taskReads_lifted (os : Os) (started : os.Started) (H : Type) (enc : TypeId × Value → H) :
  ReturnsInHanded {} Try.checked os 9 .any (Rows.taskReadsSpec.pre6 enc Try.prog Try.f9 Rows.taskReadsRow.domain false) (Rows.taskReadsSpec.post enc Try.prog Try.f9 false true false false) := by
 refine returnsInHanded_of_change (C := Try.checked) ownK started (by kernel_rfl) Try.func9
  (ChangeSpec.witness6 (enc := enc) (C := Try.checked) false ⟨#[], #[.agg #[.int .i64 0, .int .i64 0, .int .u64 0, .int .u64 0, .slice none 0 0, .int .u64 0, .string ⟨#[]⟩, .int .i64 0, .int .u64 0, .bool false], .agg #[.int .u64 0, .int .u64 0, .slice none 0 0]], []⟩ 20 (by kernel_rfl) (by kernel_rfl) (by kernel_rfl) (by kernel_rfl)) ?_
 intro W base args ds gs before hval0 hW hcnd _
 letI : Val := val0
 have hF : ∀ v : DT ((.co (.v (.p (.i .i64) (.p (.i .i64) (.p (.i .u64) (.p (.i .u64) (.p (.sl (.p .s (.p (.i .i64) (.p (.i .i64) (.p (.i .u64) (.p (.i .i64) (.p (.i .i64) (.i .u64)))))))) (.p (.i .u64) (.p .s (.p (.i .i64) (.p (.i .u64) .b)))))))))) (.co (.v (.p (.i .u64) (.p (.i .u64) (.sl (.p .s (.p (.i .i64) (.p (.i .i64) (.p (.i .u64) (.p (.i .i64) (.p (.i .i64) (.i .u64))))))))))) .no)) : Fm).den, WfF (.co (.v (.p (.i .i64) (.p (.i .i64) (.p (.i .u64) (.p (.i .u64) (.p (.sl (.p .s (.p (.i .i64) (.p (.i .i64) (.p (.i .u64) (.p (.i .i64) (.p (.i .i64) (.i .u64)))))))) (.p (.i .u64) (.p .s (.p (.i .i64) (.p (.i .u64) .b)))))))))) (.co (.v (.p (.i .u64) (.p (.i .u64) (.sl (.p .s (.p (.i .i64) (.p (.i .i64) (.p (.i .u64) (.p (.i .i64) (.p (.i .i64) (.i .u64))))))))))) .no)) v → F9 v = some true := by
  rintro ⟨⟨c1, c2, a, g0, l, k, nm, x, g, d⟩, o⟩ ⟨⟨_, _, _, _, hl, _⟩, _⟩
  exact F9_ok (szB_of hl.1 hl.2) rfl
 have hW' : DataW.Whole enc Try.prog Try.f9.params.toList Rows.taskReadsSpec.vars false W args.toList ds gs before := hW
 obtain ⟨p, q, hA0, hV, _, _, _⟩ := hW
 have hA : DataW.TrodAll enc Try.prog W 0 (fun _ => true) true Try.f9.params.toList args.toList ds p := hA0
 rw [Try.params9] at hA
 obtain ⟨v0, vs0, d0, ds0, p0, q0, ea0, rfl, rfl, h0, hA⟩ := trodAll_cons hA
 obtain ⟨v1, vs1, d1, ds1, p1, q1, ea1, rfl, rfl, h1, hA⟩ := trodAll_cons hA
 obtain ⟨rfl, rfl, rfl⟩ := trodAll_nil hA
 obtain ⟨rfl, rfl⟩ := trodVars_none hV
 exact law_tail laid pe9_ok hF (d := 20) (tb := 4) (by kernel_rfl) rfl Try.underlying4 rfl (by kernel_rfl) hval0 hW' rfl
theorem taskReads_holds : Rows.TaskReadsSaid :=
 OpenClaim.holds_of_wide 9 Try.f9 rfl rfl rfl rfl rfl rfl rfl ⟨rfl, rfl, rfl, rfl, rfl⟩ rfl rfl rfl rfl rfl (by kernel_rfl) Try.func9 (by kernel_rfl)
  (of_decide_eq_true (by kernel_rfl)) (by unfold Func.isWrapper; first | (rw [if_pos (by decide +kernel)]; kernel_rfl) | (rw [if_neg (by decide +kernel)]; exact ⟨rfl, rfl⟩))
  (fun os started H enc _ => taskReads_lifted os started H enc)
end Go.Proofs.Ytoblcfkmggbheaa.VL
