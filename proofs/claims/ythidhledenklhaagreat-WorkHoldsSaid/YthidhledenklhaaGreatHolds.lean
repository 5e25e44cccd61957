/- For every input the statement WorkHolds of chapter 20 answers true, and what it was given reads as it did. Conditions: none. -/
import Derived.Test.YthidhledenklhaaGreatRows
import Derived.Test.YthidhledenklhaaGreatVz
import Derived.Test.YthidhledenklhaaGreatHc
namespace Go.Proofs.YthidhledenklhaaGreat.VL
open Go Go.ChangeShapes Go.WideShapes Go.ChangeAt Go.RowKit
set_option linter.unusedVariables false
set_option linter.unusedSimpArgs false
set_option maxRecDepth 100000

theorem ownK : ownKnob Tryz.prog.godebug = none := by kernel_rfl
theorem laid : laidOutB Tryz.prog = true := by kernel_rfl
@[reducible] def val0 : Val := ⟨fun _ => 1, fun _ _ => by decide, fun _ => false, fun _ => ⟨#[]⟩⟩

theorem bounds_u16 {n : Int} (h : IntKind.u16.wrap n = n) : 0 ≤ n ∧ n ≤ 65535 := by
  have : IntKind.u16.wrap n = n % 65536 := rfl
  omega
theorem bounds_u64 {n : Int} (h : IntKind.u64.wrap n = n) : 0 ≤ n ∧ n ≤ 18446744073709551615 := by
  have : IntKind.u64.wrap n = n % 18446744073709551616 := rfl
  omega
theorem read_terms {p : PV} (hF : Fit Tryz.prog 23 p) : ∃ a b c : Int, p = .agg [vi a, vi b, vi c] := by
  letI : Val := val0
  obtain ⟨ps, hl, rfl, hp⟩ := fit_struct Tryz.underlying23 hF
  match ps, hl with
  | [p0, p1, p2], _ =>
    obtain ⟨a, rfl, _⟩ := fit_int Tryz.underlying2 (hp 0 _ p0 rfl rfl)
    obtain ⟨b, rfl, _⟩ := fit_int Tryz.underlying2 (hp 1 _ p1 rfl rfl)
    obtain ⟨c, rfl, _⟩ := fit_int Tryz.underlying2 (hp 2 _ p2 rfl rfl)
    exact ⟨a, b, c, rfl⟩
theorem bounds_u16' {n : Int} (h : (Lit.int .u16 n).wf = true) : 0 ≤ n ∧ n ≤ 65535 := by
  simp [Lit.wf, IntKind.min, IntKind.max, IntKind.bits, IntKind.signed] at h
  omega
theorem bounds_u64' {n : Int} (h : (Lit.int .u64 n).wf = true) : 0 ≤ n ∧ n ≤ 18446744073709551615 := by
  simp [Lit.wf, IntKind.min, IntKind.max, IntKind.bits, IntKind.signed] at h
  omega
theorem read_hold {p : PV} (hF : Fit Tryz.prog 66 p) : ∃ a b c d e f : Int, p = .agg [vi a, vi b, vi c, .v (.int .u16 d), .v (.int .u16 e), vu f] ∧ (0 ≤ d ∧ d ≤ 65535) ∧ (0 ≤ e ∧ e ≤ 65535) ∧ (0 ≤ f ∧ f ≤ 18446744073709551615) := by
  letI : Val := val0
  obtain ⟨ps, hl, rfl, hp⟩ := fit_struct Tryz.underlying66 hF
  match ps, hl with
  | [p0, p1, p2, p3], _ =>
    obtain ⟨a, b, c, rfl⟩ := read_terms (hp 0 _ p0 rfl rfl)
    obtain ⟨d, rfl, w1⟩ := fit_int Tryz.underlying64 (hp 1 _ p1 rfl rfl)
    obtain ⟨e, rfl, w2⟩ := fit_int Tryz.underlying64 (hp 2 _ p2 rfl rfl)
    obtain ⟨f, rfl, w3⟩ := fit_int Tryz.underlying24 (hp 3 _ p3 rfl rfl)
    exact ⟨a, b, c, d, e, f, rfl, bounds_u16' w1, bounds_u16' w2, bounds_u64' w3⟩
theorem rep_agg_of {V : Val} {E : Env} {vs : List Value} {ps : List PV} {u : Value} (h : @Rep val0 E (.agg (vs.map .v)) u) (hl : ps.length = vs.length) (hr : ∀ (i : Nat) (p : PV) (v : Value), ps[i]? = some p → vs[i]? = some v → @Rep V E p v) : @Rep V E (.agg ps) u := by
  cases h with
  | agg _ us hus ho h =>
    refine @Rep.agg V E ps us (by rw [hus, List.length_map, hl]) ho fun i c u hc hu => ?_
    have hi : i < vs.length := by have := (List.getElem?_eq_some_iff.1 hc).1; omega
    have := h i (.v vs[i]) u (by simp [hi]) hu
    cases this
    exact hr i c _ hc (List.getElem?_eq_getElem hi)

theorem workHolds_lifted (os : Os) (started : os.Started) (H : Type) (enc : TypeId × Value → H) :
    ReturnsInHanded {} Tryz.checked os 6 .any (Rows.workHoldsSpec.pre6 enc Tryz.prog Tryz.f6 Rows.workHoldsRow.domain false) (Rows.workHoldsSpec.post enc Tryz.prog Tryz.f6 false true false false) := by
  refine returnsInHanded_of_change (C := Tryz.checked) ownK started (by kernel_rfl) Tryz.func6
    (ChangeSpec.witness6 (enc := enc) (C := Tryz.checked) false ⟨#[], #[.agg #[.int .i64 0, .int .i64 0, .int .i64 0, .int .u16 0, .int .u16 0, .int .u64 0]], []⟩ 8 (by kernel_rfl) (by kernel_rfl) (by kernel_rfl) (by kernel_rfl)) ?_
  intro W base args ds gs before hval0 hW hcnd _
  have hval : ∀ (j : Nat) t v, Tryz.f6.params[j]? = some t → args[j]? = some v → Value.okWide Tryz.prog W .any base t v := hval0
  have hW' : DataW.Whole enc Tryz.prog Tryz.f6.params.toList Rows.workHoldsSpec.vars false W args.toList ds gs before := hW
  obtain ⟨p, q, hA0, hV, _, _, _⟩ := hW
  have hA : DataW.TrodAll enc Tryz.prog W 0 (fun _ => true) true Tryz.f6.params.toList args.toList ds p := hA0
  rw [Tryz.params6] at hA hval
  obtain ⟨v0, vs0, d0, ds0, p0, q0, ea, rfl, rfl, h0, hA⟩ := trodAll_cons hA
  obtain ⟨rfl, rfl, rfl⟩ := trodAll_nil hA
  obtain rfl : args = #[v0] := by cases args; simp_all
  obtain ⟨rfl, rfl⟩ := trodVars_none hV
  obtain ⟨r0, f0, g0⟩ := @read_arg val0 _ _ _ _ 8 _ _ _ _ _ _ (by kernel_rfl) (hval 0 66 v0 rfl rfl) h0
  obtain ⟨x0, x1, x2, x3, x4, x5, rfl, w3, w4, w5⟩ := read_hold f0
  obtain ⟨x, hx, hc⟩ := hold_cases x0 x1 x2
  letI V : Val := ⟨fun n => if n < 1000 then [x0, x1, x2, x3, x4, x5].getD n 0 else x, fun n hn => by rw [if_neg (by omega)]; exact hx, fun _ => false, fun n => ⟨#[]⟩⟩
  have key := holds_sym (hc V rfl rfl rfl rfl) w3 w4 w5
  refine law_post laid key (tb := 4) rfl Tryz.underlying4 rfl (by kernel_rfl) hW' rfl rfl ?_
  intro i pv u hp hu
  match i with
  | 0 =>
    simp [qS] at hp hu; subst hp hu
    refine rep_agg_of (vs := [.int .i64 x0, .int .i64 x1, .int .i64 x2, .int .u16 x3, .int .u16 x4, .int .u64 x5]) g0 rfl fun i p v hp hv => ?_
    match i with
    | 0 => simp at hp hv; subst hp hv; exact .sy (.i .i64 0)
    | 1 => simp at hp hv; subst hp hv; exact .sy (.i .i64 1)
    | 2 => simp at hp hv; subst hp hv; exact .sy (.i .i64 2)
    | 3 => simp at hp hv; subst hp hv; exact .sy (.i .u16 3)
    | 4 => simp at hp hv; subst hp hv; exact .sy (.i .u16 4)
    | 5 => simp at hp hv; subst hp hv; exact .sy (.i .u64 5)
    | i + 6 => simp at hv
  | i + 1 => simp at hu

theorem workHolds_holds : Rows.WorkHoldsSaid :=
  OpenClaim.holds_of_wide 6 Tryz.f6 rfl rfl rfl rfl rfl rfl rfl ⟨rfl, rfl, rfl, rfl, rfl⟩ rfl rfl rfl rfl rfl (by kernel_rfl) Tryz.func6 (by kernel_rfl)
    (of_decide_eq_true (by kernel_rfl)) (by unfold Func.isWrapper; first | (rw [if_pos (by decide +kernel)]; kernel_rfl) | (rw [if_neg (by decide +kernel)]; exact ⟨rfl, rfl⟩))
    (fun os started H enc _ => workHolds_lifted os started H enc)
end Go.Proofs.YthidhledenklhaaGreat.VL
