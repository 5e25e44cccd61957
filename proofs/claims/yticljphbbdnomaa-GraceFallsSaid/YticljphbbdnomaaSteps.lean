/- For every input the statement GraceSteps of chapter 9 answers true, and what it was given reads as it did. Conditions: none. -/
import Derived.Lib.SmallJoins
import Derived.Test.YticljphbbdnomaaRows
import Derived.Test.YticljphbbdnomaaVy
import Derived.Test.YticljphbbdnomaaGe
namespace Go.Proofs.Yticljphbbdnomaa.VL
open Go Go.Joins Go.ChangeShapes Go.WideShapes Go.ChangeAt Go.RowKit
set_option linter.unusedVariables false
set_option linter.unusedSimpArgs false
set_option maxRecDepth 100000

theorem ownK : ownKnob Try.prog.godebug = none := by kernel_rfl
theorem laid : laidOutB Try.prog = true := by kernel_rfl

theorem open_rules {H : Type} {enc : TypeId × Value → H} {W : World} {base b0 : Nat} {v : Value} {d : DataW H} {ps : List MemPlace} {spare : Nat → Bool} {held : Bool} {r : Reach} (hval : Value.okWide Try.prog W r b0 23 v) (h : DataW.Trod enc Try.prog W base spare held 23 v d ps) :
    ∃ a b c, v = .agg #[.int .i64 a, .int .i64 b, .int .i64 c] := by
  obtain ⟨v0, v1, v2, y0, y1, y2, n, rfl, _, _, t0, t1, t2⟩ := open_agg3 Try.underlying23 (by kernel_rfl) (by kernel_rfl) hval h
  obtain ⟨a, e0, _⟩ := DataW.trod_int Try.underlying3 t0
  obtain ⟨b, e1, _⟩ := DataW.trod_int Try.underlying3 t1
  obtain ⟨c, e2, _⟩ := DataW.trod_int Try.underlying3 t2
  simp at e0 e1 e2
  subst e0 e1 e2
  exact ⟨a, b, c, rfl⟩
theorem rep_rules {E : Env} (a b c : Int) : Rep E (vr a b c) (.agg #[.int .i64 a, .int .i64 b, .int .i64 c]) := by
  refine .agg _ _ rfl ?_ ?_
  · intro i u hu
    match i with
    | 0 | 1 | 2 => simp at hu; subst hu; rfl
    | i + 3 => simp at hu
  · intro i c' u hc hu
    match i with
    | 0 | 1 | 2 => simp at hc hu; subst hc hu; exact .v _
    | i + 3 => simp at hu

theorem graceSteps_lifted (os : Os) (started : os.Started) (H : Type) (enc : TypeId × Value → H) :
    ReturnsInHanded {} Try.checked os 6 .any (Rows.graceStepsSpec.pre6 enc Try.prog Try.f6 Rows.graceStepsRow.domain false) (Rows.graceStepsSpec.post enc Try.prog Try.f6 false true false false) := by
  refine returnsInHanded_of_change (C := Try.checked) ownK started (by kernel_rfl) Try.func6
    (ChangeSpec.witness6 (enc := enc) (C := Try.checked) false ⟨#[], #[.agg #[.int .i64 0, .int .i64 0, .int .i64 0], .int .u8 0], []⟩ 8 (by kernel_rfl) (by kernel_rfl) (by kernel_rfl) (by kernel_rfl)) ?_
  intro W base args ds gs before hval0 hW hcnd _
  have hval : ∀ (j : Nat) t v, Try.f6.params[j]? = some t → args[j]? = some v → Value.okWide Try.prog W .any base t v := hval0
  have hW' : DataW.Whole enc Try.prog Try.f6.params.toList Rows.graceStepsSpec.vars false W args.toList ds gs before := hW
  obtain ⟨p, q, hA0, hV, _, _, _⟩ := hW
  have hA : DataW.TrodAll enc Try.prog W 0 (fun _ => true) true Try.f6.params.toList args.toList ds p := hA0
  rw [Try.params6] at hA hval
  obtain ⟨v0, v1, d0, d1, p0, p1, rfl, rfl, rfl, h0, h1⟩ := trodAll_two hA
  obtain ⟨rfl, rfl⟩ := trodVars_none hV
  obtain ⟨a, b, c, rfl⟩ := open_rules (hval 0 23 v0 rfl rfl) h0
  obtain ⟨n, rfl, rfl, rfl, wn⟩ := open_int Try.underlying5 (hval 1 5 v1 rfl rfl) h1
  have hn := bounds_u8 wn
  refine law_post laid (steps_ok a b c n hn.1 hn.2) (tb := 4) rfl Try.underlying4 rfl (by kernel_rfl) hW' rfl rfl ?_
  intro i pv u hp hu
  match i with
  | 0 => simp at hp hu; subst hp hu; exact rep_rules a b c
  | 1 => simp at hp hu; subst hp hu; exact .v _
  | i + 2 => simp at hu

theorem graceSteps_holds : Rows.GraceStepsSaid :=
  OpenClaim.holds_of_wide 6 Try.f6 rfl rfl rfl rfl rfl rfl rfl ⟨rfl, rfl, rfl, rfl, rfl⟩ rfl rfl rfl rfl rfl (by kernel_rfl) Try.func6 (by kernel_rfl)
    (of_decide_eq_true (by kernel_rfl)) (by unfold Func.isWrapper; first | (rw [if_pos (by decide +kernel)]; kernel_rfl) | (rw [if_neg (by decide +kernel)]; exact ⟨rfl, rfl⟩))
    (fun os started H enc _ => graceSteps_lifted os started H enc)
end Go.Proofs.Yticljphbbdnomaa.VL
