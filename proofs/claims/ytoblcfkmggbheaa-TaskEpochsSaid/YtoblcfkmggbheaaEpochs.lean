/- For every input the statement TaskEpochs of chapter 19 answers true, and what it was given reads as it did. Conditions: none. -/
import Derived.Test.YtoblcfkmggbheaaRows
import Derived.Test.YtoblcfkmggbheaaVz
import Derived.Test.YtoblcfkmggbheaaEa
namespace Go.Proofs.Ytoblcfkmggbheaa.VL
open Go Go.ChangeShapes Go.WideShapes Go.ChangeAt Go.RowKit
set_option linter.unusedVariables false
set_option linter.unusedSimpArgs false
set_option maxRecDepth 100000

theorem ownK : ownKnob Try.prog.godebug = none := by kernel_rfl
theorem laid : laidOutB Try.prog = true := by kernel_rfl
@[reducible] def val0 : Val := ⟨fun _ => 0, fun _ => false, fun _ => ⟨#[]⟩⟩

theorem read_caps {p : PV} (hF : Fit Try.prog 23 p) : ∃ a b : Int, p = .agg [vi a, vi b] ∧ (-9223372036854775808 ≤ a ∧ a ≤ 9223372036854775807) ∧ (-9223372036854775808 ≤ b ∧ b ≤ 9223372036854775807) := by
  letI : Val := val0
  obtain ⟨ps, hl, rfl, hp⟩ := fit_struct Try.underlying23 hF
  match ps, hl with
  | [p0, p1], _ =>
    obtain ⟨a, rfl, w0⟩ := fit_int Try.underlying3 (hp 0 _ p0 rfl rfl)
    obtain ⟨b, rfl, w1⟩ := fit_int Try.underlying3 (hp 1 _ p1 rfl rfl)
    exact ⟨a, b, rfl, bounds_i64 w0, bounds_i64 w1⟩
theorem read_act {p : PV} (hF : Fit Try.prog 54 p) : ∃ (a b c d : Int) (s : ByteArray), p = .agg [.v (.int .u8 a), .v (.int .u8 b), vs s, .v (.int .u8 c), .v (.int .u8 d)] ∧ (0 ≤ a ∧ a ≤ 255) ∧ (0 ≤ b ∧ b ≤ 255) ∧ (0 ≤ c ∧ c ≤ 255) ∧ (0 ≤ d ∧ d ≤ 255) := by
  letI : Val := val0
  obtain ⟨ps, hl, rfl, hp⟩ := fit_struct Try.underlying54 hF
  match ps, hl with
  | [p0, p1, p2, p3, p4], _ =>
    obtain ⟨a, rfl, w0⟩ := fit_int Try.underlying5 (hp 0 _ p0 rfl rfl)
    obtain ⟨b, rfl, w1⟩ := fit_int Try.underlying5 (hp 1 _ p1 rfl rfl)
    obtain ⟨s, rfl, _⟩ := fit_str Try.underlying9 (hp 2 _ p2 rfl rfl)
    obtain ⟨c, rfl, w3⟩ := fit_int Try.underlying5 (hp 3 _ p3 rfl rfl)
    obtain ⟨d, rfl, w4⟩ := fit_int Try.underlying5 (hp 4 _ p4 rfl rfl)
    exact ⟨a, b, c, d, s, rfl, bounds_u8 w0, bounds_u8 w1, bounds_u8 w3, bounds_u8 w4⟩

theorem rep_agg_of {V : Val} {E : Env} {vs : List Value} {ps : List PV} {u : Value} (h : @Rep val0 E (.agg (vs.map .v)) u) (hl : ps.length = vs.length) (hr : ∀ (i : Nat) (p : PV) (v : Value), ps[i]? = some p → vs[i]? = some v → @Rep V E p v) : @Rep V E (.agg ps) u := by
  cases h with
  | agg _ us hus ho h =>
    refine @Rep.agg V E ps us (by rw [hus, List.length_map, hl]) ho fun i c u hc hu => ?_
    have hi : i < vs.length := by have := (List.getElem?_eq_some_iff.1 hc).1; omega
    have := h i (.v vs[i]) u (by simp [hi]) hu
    cases this
    exact hr i c _ hc (List.getElem?_eq_getElem hi)

theorem taskEpochs_lifted (os : Os) (started : os.Started) (H : Type) (enc : TypeId × Value → H) :
    ReturnsInHanded {} Try.checked os 5 .any (Rows.taskEpochsSpec.pre6 enc Try.prog Try.f5 Rows.taskEpochsRow.domain false) (Rows.taskEpochsSpec.post enc Try.prog Try.f5 false true false false) := by
  refine returnsInHanded_of_change (C := Try.checked) ownK started (by kernel_rfl) Try.func5
    (ChangeSpec.witness6 (enc := enc) (C := Try.checked) false ⟨#[], #[.agg #[.int .i64 0, .int .i64 0], .agg #[.int .u8 0, .int .u8 0, .string ⟨#[]⟩, .int .u8 0, .int .u8 0], .agg #[.int .u8 0, .int .u8 0, .string ⟨#[]⟩, .int .u8 0, .int .u8 0]], []⟩ 8 (by kernel_rfl) (by kernel_rfl) (by kernel_rfl) (by kernel_rfl)) ?_
  intro W base args ds gs before hval0 hW hcnd _
  have hval : ∀ (j : Nat) t v, Try.f5.params[j]? = some t → args[j]? = some v → Value.okWide Try.prog W .any base t v := hval0
  have hW' : DataW.Whole enc Try.prog Try.f5.params.toList Rows.taskEpochsSpec.vars false W args.toList ds gs before := hW
  obtain ⟨p, q, hA0, hV, _, _, _⟩ := hW
  have hA : DataW.TrodAll enc Try.prog W 0 (fun _ => true) true Try.f5.params.toList args.toList ds p := hA0
  rw [Try.params5] at hA hval
  obtain ⟨v0, vs0, d0, ds0, p0, q0, ea, rfl, rfl, h0, hA⟩ := trodAll_cons hA
  obtain ⟨v1, vs1, d1, ds1, p1, q1, rfl, rfl, rfl, h1, hA⟩ := trodAll_cons hA
  obtain ⟨v2, vs2, d2, ds2, p2, q2, rfl, rfl, rfl, h2, hA⟩ := trodAll_cons hA
  obtain ⟨rfl, rfl, rfl⟩ := trodAll_nil hA
  obtain rfl : args = #[v0, v1, v2] := by cases args; simp_all
  obtain ⟨rfl, rfl⟩ := trodVars_none hV
  obtain ⟨r0, f0, g0⟩ := @read_arg val0 _ _ _ _ 8 _ _ _ _ _ _ (by kernel_rfl) (hval 0 23 v0 rfl rfl) h0
  obtain ⟨r1, f1, g1⟩ := @read_arg val0 _ _ _ _ 8 _ _ _ _ _ _ (by kernel_rfl) (hval 1 54 v1 rfl rfl) h1
  obtain ⟨r2, f2, g2⟩ := @read_arg val0 _ _ _ _ 8 _ _ _ _ _ _ (by kernel_rfl) (hval 2 54 v2 rfl rfl) h2
  obtain ⟨x0, x1, rfl, wx0, wx1⟩ := read_caps f0
  obtain ⟨x2, x3, x4, x5, s0, rfl, wx2, wx3, wx4, wx5⟩ := read_act f1
  obtain ⟨x6, x7, x8, x9, s1, rfl, wx6, wx7, wx8, wx9⟩ := read_act f2
  letI V : Val := ⟨fun n => [x0, x1, x2, x3, x4, x5, x6, x7, x8, x9].getD n 0, fun _ => false, fun n => [s0, s1].getD n ⟨#[]⟩⟩
  have key := epochs_sym wx0 wx1 (fun n h1 h2 => by
    match n with
    | 0 | 1 => omega
    | 2 => exact wx2
    | 3 => exact wx3
    | 4 => exact wx4
    | 5 => exact wx5
    | 6 => exact wx6
    | 7 => exact wx7
    | 8 => exact wx8
    | 9 => exact wx9
    | n + 10 => omega)
  refine law_post laid key (tb := 4) rfl Try.underlying4 rfl (by kernel_rfl) hW' rfl rfl ?_
  intro i pv u hp hu
  match i with
  | 0 =>
    simp [epArgs] at hp hu; subst hp hu
    refine rep_agg_of (vs := [.int .i64 x0, .int .i64 x1]) g0 rfl fun i p v hp hv => ?_
    match i with
    | 0 => simp at hp hv; subst hp hv; exact .sy (.i .i64 0)
    | 1 => simp at hp hv; subst hp hv; exact .sy (.i .i64 1)
    | i + 2 => simp at hv
  | 1 =>
    simp [epArgs] at hp hu; subst hp hu
    refine rep_agg_of (vs := [.int .u8 x2, .int .u8 x3, .string s0, .int .u8 x4, .int .u8 x5]) g1 rfl fun i p v hp hv => ?_
    match i with
    | 0 => simp at hp hv; subst hp hv; exact .sy (.i .u8 2)
    | 1 => simp at hp hv; subst hp hv; exact .sy (.i .u8 3)
    | 2 => simp at hp hv; subst hp hv; exact .sy (.s 0)
    | 3 => simp at hp hv; subst hp hv; exact .sy (.i .u8 4)
    | 4 => simp at hp hv; subst hp hv; exact .sy (.i .u8 5)
    | i + 5 => simp at hv
  | 2 =>
    simp [epArgs] at hp hu; subst hp hu
    refine rep_agg_of (vs := [.int .u8 x6, .int .u8 x7, .string s1, .int .u8 x8, .int .u8 x9]) g2 rfl fun i p v hp hv => ?_
    match i with
    | 0 => simp at hp hv; subst hp hv; exact .sy (.i .u8 6)
    | 1 => simp at hp hv; subst hp hv; exact .sy (.i .u8 7)
    | 2 => simp at hp hv; subst hp hv; exact .sy (.s 1)
    | 3 => simp at hp hv; subst hp hv; exact .sy (.i .u8 8)
    | 4 => simp at hp hv; subst hp hv; exact .sy (.i .u8 9)
    | i + 5 => simp at hv
  | i + 3 => simp at hu

theorem taskEpochs_holds : Rows.TaskEpochsSaid :=
  OpenClaim.holds_of_wide 5 Try.f5 rfl rfl rfl rfl rfl rfl rfl ⟨rfl, rfl, rfl, rfl, rfl⟩ rfl rfl rfl rfl rfl (by kernel_rfl) Try.func5 (by kernel_rfl)
    (of_decide_eq_true (by kernel_rfl)) (by unfold Func.isWrapper; first | (rw [if_pos (by decide +kernel)]; kernel_rfl) | (rw [if_neg (by decide +kernel)]; exact ⟨rfl, rfl⟩))
    (fun os started H enc _ => taskEpochs_lifted os started H enc)
end Go.Proofs.Ytoblcfkmggbheaa.VL
