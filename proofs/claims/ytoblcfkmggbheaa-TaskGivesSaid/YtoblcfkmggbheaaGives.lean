/- For every input the statement TaskGives of chapter 19 answers true, and what it was given reads as it did. Conditions: none. -/
import Derived.Test.YtoblcfkmggbheaaRows
import Derived.Test.YtoblcfkmggbheaaVz
import Derived.Test.YtoblcfkmggbheaaJb
namespace Go.Proofs.Ytoblcfkmggbheaa.VL
open Go Go.ChangeShapes Go.WideShapes Go.ChangeAt Go.RowKit
set_option linter.unusedVariables false
set_option linter.unusedSimpArgs false
set_option maxRecDepth 100000

theorem ownK : ownKnob Try.prog.godebug = none := by kernel_rfl
theorem laid : laidOutB Try.prog = true := by kernel_rfl
@[reducible] def val0 : Val := ⟨fun _ => 1, fun _ _ => by decide, fun _ => false, fun _ => ⟨#[]⟩⟩

theorem read_caps {p : PV} (hF : Fit Try.prog 23 p) : ∃ a b : Int, p = .agg [vi a, vi b] ∧ (-9223372036854775808 ≤ a ∧ a ≤ 9223372036854775807) ∧ (-9223372036854775808 ≤ b ∧ b ≤ 9223372036854775807) := by
  letI : Val := val0
  obtain ⟨ps, hl, rfl, hp⟩ := fit_struct Try.underlying23 hF
  match ps, hl with
  | [p0, p1], _ =>
    obtain ⟨a, rfl, w0⟩ := fit_int Try.underlying3 (hp 0 _ p0 rfl rfl)
    obtain ⟨b, rfl, w1⟩ := fit_int Try.underlying3 (hp 1 _ p1 rfl rfl)
    exact ⟨a, b, rfl, bounds_i64 w0, bounds_i64 w1⟩
theorem rep_agg_of {V : Val} {E : Env} {vs : List Value} {ps : List PV} {u : Value} (h : @Rep val0 E (.agg (vs.map .v)) u) (hl : ps.length = vs.length) (hr : ∀ (i : Nat) (p : PV) (v : Value), ps[i]? = some p → vs[i]? = some v → @Rep V E p v) : @Rep V E (.agg ps) u := by
  cases h with
  | agg _ us hus ho h =>
    refine @Rep.agg V E ps us (by rw [hus, List.length_map, hl]) ho fun i c u hc hu => ?_
    have hi : i < vs.length := by have := (List.getElem?_eq_some_iff.1 hc).1; omega
    have := h i (.v vs[i]) u (by simp [hi]) hu
    cases this
    exact hr i c _ hc (List.getElem?_eq_getElem hi)

theorem taskGives_lifted (os : Os) (started : os.Started) (H : Type) (enc : TypeId × Value → H) :
    ReturnsInHanded {} Try.checked os 6 .any (Rows.taskGivesSpec.pre6 enc Try.prog Try.f6 Rows.taskGivesRow.domain false) (Rows.taskGivesSpec.post enc Try.prog Try.f6 false true false false) := by
  refine returnsInHanded_of_change (C := Try.checked) ownK started (by kernel_rfl) Try.func6
    (ChangeSpec.witness6 (enc := enc) (C := Try.checked) false ⟨#[], #[.agg #[.int .i64 0, .int .i64 0], .slice none 0 0], []⟩ 8 (by kernel_rfl) (by kernel_rfl) (by kernel_rfl) (by kernel_rfl)) ?_
  intro W base args ds gs before hval0 hW hcnd _
  have hval : ∀ (j : Nat) t v, Try.f6.params[j]? = some t → args[j]? = some v → Value.okWide Try.prog W .any base t v := hval0
  have hW' : DataW.Whole enc Try.prog Try.f6.params.toList Rows.taskGivesSpec.vars false W args.toList ds gs before := hW
  obtain ⟨p, q, hA0, hV, _, _, _⟩ := hW
  have hA : DataW.TrodAll enc Try.prog W 0 (fun _ => true) true Try.f6.params.toList args.toList ds p := hA0
  rw [Try.params6] at hA hval
  obtain ⟨v0, vs0, d0, ds0, p0, q0, ea, rfl, rfl, h0, hA⟩ := trodAll_cons hA
  obtain ⟨v1, vs1, d1, ds1, p1, q1, rfl, rfl, rfl, h1, hA⟩ := trodAll_cons hA
  obtain ⟨rfl, rfl, rfl⟩ := trodAll_nil hA
  obtain rfl : args = #[v0, v1] := by cases args; simp_all
  obtain ⟨rfl, rfl⟩ := trodVars_none hV
  obtain ⟨r0, f0, g0⟩ := @read_arg val0 _ _ _ _ 8 _ _ _ _ _ _ (by kernel_rfl) (hval 0 23 v0 rfl rfl) h0
  obtain ⟨r1, f1, g1⟩ := @read_arg val0 _ _ _ _ 8 _ _ _ _ _ _ (by kernel_rfl) (hval 1 57 v1 rfl rfl) h1
  obtain ⟨x0, x1, rfl, wx0, wx1⟩ := read_caps f0
  obtain ⟨c, es, rfl, _, hlen, he⟩ := @fit_slice val0 _ _ _ _ Try.underlying57 f1
  letI V : Val := val0
  have hL : (es.length : Int) ≤ 9223372036854775807 := by
    have e : maxLen = 9223372036854775807 := rfl
    omega
  have key := gives_ok x0 x1 c es wx0 wx1 (fun e h => @fit_bool val0 _ _ _ Try.underlying4 (he e h)) hL
  refine law_post laid key (tb := 4) rfl Try.underlying4 rfl (by kernel_rfl) hW' rfl rfl ?_
  intro i pv u hp hu
  match i with
  | 0 =>
    simp at hp hu; subst hp hu
    exact g0
  | 1 =>
    simp at hp hu; subst hp hu
    exact g1
  | i + 2 => simp at hu

theorem taskGives_holds : Rows.TaskGivesSaid :=
  OpenClaim.holds_of_wide 6 Try.f6 rfl rfl rfl rfl rfl rfl rfl ⟨rfl, rfl, rfl, rfl, rfl⟩ rfl rfl rfl rfl rfl (by kernel_rfl) Try.func6 (by kernel_rfl)
    (of_decide_eq_true (by kernel_rfl)) (by unfold Func.isWrapper; first | (rw [if_pos (by decide +kernel)]; kernel_rfl) | (rw [if_neg (by decide +kernel)]; exact ⟨rfl, rfl⟩))
    (fun os started H enc _ => taskGives_lifted os started H enc)
end Go.Proofs.Ytoblcfkmggbheaa.VL
