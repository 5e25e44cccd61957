/- For every input the statement NewsBudgets of chapter 7 answers true, and what it was given reads as it did. Conditions: none. -/
import Derived.Test.YtemdbhdjchkllaaRows
import Derived.Test.YtemdbhdjchkllaaVy
import Derived.Test.YtemdbhdjchkllaaNb
namespace Go.Proofs.Ytemdbhdjchkllaa.VL
open Go Go.ChangeShapes Go.WideShapes Go.ChangeAt Go.RowKit
set_option linter.unusedVariables false
set_option linter.unusedSimpArgs false
set_option maxRecDepth 100000

theorem ownK : ownKnob Try.prog.godebug = none := by kernel_rfl
theorem laid : laidOutB Try.prog = true := by kernel_rfl

theorem newsBudgets_lifted (os : Os) (started : os.Started) (H : Type) (enc : TypeId × Value → H) :
    ReturnsInHanded {} Try.checked os 7 .any (Rows.newsBudgetsSpec.pre6 enc Try.prog Try.f7 Rows.newsBudgetsRow.domain false) (Rows.newsBudgetsSpec.post enc Try.prog Try.f7 false true false false) := by
  refine returnsInHanded_of_change (C := Try.checked) ownK started (by kernel_rfl) Try.func7
    (ChangeSpec.witness6 (enc := enc) (C := Try.checked) false ⟨#[], #[.int .u8 0, .int .u8 0], []⟩ 8 (by kernel_rfl) (by kernel_rfl) (by kernel_rfl) (by kernel_rfl)) ?_
  intro W base args ds gs before hval0 hW hcnd _
  have hval : ∀ (j : Nat) t v, Try.f7.params[j]? = some t → args[j]? = some v → Value.okWide Try.prog W .any base t v := hval0
  have hW' : DataW.Whole enc Try.prog Try.f7.params.toList Rows.newsBudgetsSpec.vars false W args.toList ds gs before := hW
  obtain ⟨p, q, hA0, hV, _, _, _⟩ := hW
  have hA : DataW.TrodAll enc Try.prog W 0 (fun _ => true) true Try.f7.params.toList args.toList ds p := hA0
  rw [Try.params7] at hA hval
  obtain ⟨v0, v1, d0, d1, p0, p1, rfl, rfl, rfl, h0, h1⟩ := trodAll_two hA
  obtain ⟨rfl, rfl⟩ := trodVars_none hV
  obtain ⟨n, rfl, rfl, rfl, wn⟩ := open_int Try.underlying5 (hval 0 5 v0 rfl rfl) h0
  obtain ⟨k, rfl, rfl, rfl, wk⟩ := open_int Try.underlying5 (hval 1 5 v1 rfl rfl) h1
  have hn := bounds_u8 wn
  have hk := bounds_u8 wk
  refine law_post laid (budgets_ok n k hn.1 hn.2 hk.1 hk.2) (tb := 4) rfl Try.underlying4 rfl (by kernel_rfl) hW' rfl rfl ?_
  intro i pv u hp hu
  match i with
  | 0 => simp at hp hu; subst hp hu; exact .v _
  | 1 => simp at hp hu; subst hp hu; exact .v _
  | i + 2 => simp at hu

theorem newsBudgets_holds : Rows.NewsBudgetsSaid :=
  OpenClaim.holds_of_wide 7 Try.f7 rfl rfl rfl rfl rfl rfl rfl ⟨rfl, rfl, rfl, rfl, rfl⟩ rfl rfl rfl rfl rfl (by kernel_rfl) Try.func7 (by kernel_rfl)
    (of_decide_eq_true (by kernel_rfl)) (by unfold Func.isWrapper; first | (rw [if_pos (by decide +kernel)]; kernel_rfl) | (rw [if_neg (by decide +kernel)]; exact ⟨rfl, rfl⟩))
    (fun os started H enc _ => newsBudgets_lifted os started H enc)
end Go.Proofs.Ytemdbhdjchkllaa.VL
