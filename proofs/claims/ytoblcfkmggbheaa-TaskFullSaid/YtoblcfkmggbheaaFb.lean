/- TaskFull, gone through. -/
import Derived.Test.YtoblcfkmggbheaaFa
namespace Go.Proofs.Ytoblcfkmggbheaa.VL
open Go
set_option maxRecDepth 100000
set_option linter.unusedSectionVars false
variable [Val]
/-- The checks of the books of n tasks. -/
def chk (n : Nat) : List Known := [⟨29, [cS], vi 0⟩, ⟨26, [bk n], vi 0⟩, ⟨26, [bh 0 tc n [tz]], vi 0⟩, ⟨26, [bh 0 tc n []], vi 0⟩, ⟨26, [bh 1 tg n []], vi 0⟩, ⟨26, [bh 1 td n []], vi 0⟩, ⟨26, [bh 1 td n [tz]], vi 0⟩]
theorem mays_run : ((List.range 20).all fun k => (runK noK 29 [cS]).all (leafIs (vi 0)) (atF ((k + 1 : Nat) : Int) 20)) = true := by kernel_rfl
theorem chk_ok {k : Nat} (hk : k < 20) (hF : (atF ((k + 1 : Nat) : Int) 20).holds) : KnownOk Try.prog (chk (k + 1)) := by
  have m := List.mem_range.2 hk
  have m' := List.mem_range.2 (show k + 1 < 21 by omega)
  exact ⟨isK (l := noK) trivial hF (List.all_eq_true.1 mays_run k m), isK oddK_ok anyF_ok (List.all_eq_true.1 checks_run (k + 1) m'), isK oddK_ok anyF_ok (List.all_eq_true.1 checksc_run k m), isK oddK_ok anyF_ok (List.all_eq_true.1 checksc0_run k m),
    isK oddK_ok anyF_ok (List.all_eq_true.1 checksg_run k m), isK oddK_ok anyF_ok (List.all_eq_true.1 checksd0_run k m), isK oddK_ok anyF_ok (List.all_eq_true.1 checksd_run k m), trivial⟩
def ent (k : Nat) : List Known := [⟨29, [cS], vi 0⟩, ⟨26, [bk k], vi 0⟩]
theorem ent_ok {k : Nat} (hk : k < 20) (hF : (atF ((k + 1 : Nat) : Int) 20).holds) : KnownOk Try.prog (ent k) :=
  ⟨isK (l := noK) trivial hF (List.all_eq_true.1 mays_run k (List.mem_range.2 hk)), isK oddK_ok anyF_ok (List.all_eq_true.1 checks_run k (List.mem_range.2 (by omega))), trivial⟩
theorem subs_run : ((List.range 20).all fun k => (runK (ent k) 17 [cS, bk k, vu 1, nm k, vi (k % 10 : Nat)]).all (leafIs (.tup [bk (k + 1), vi 0])) (atF ((k + 1 : Nat) : Int) 20)) = true := by kernel_rfl
/-- At just so many. -/
abbrev nF (k : Nat) : Facts := atF ((k + 1 : Nat) : Int) ((k + 1 : Nat) : Int)
abbrev sz : PV := vs ⟨#[122]⟩
abbrev szz : PV := vs ⟨#[122, 122]⟩
theorem full_run : ((List.range 20).all fun k => (runK (chk (k + 1)) 17 [cS, bk (k + 1), vu 1, sz, vi 0]).all (leafIs (.tup [bk (k + 1), vi 9])) (nF k)) = true := by kernel_rfl
theorem cancel_run : ((List.range 20).all fun k => (runK (chk (k + 1)) 16 [cS, bk (k + 1), vu 1, nm 0]).all (leafIs (.tup [bh 0 tc (k + 1) [], vi 0])) (nF k)) = true := by kernel_rfl
theorem grant_run2 : ((List.range 20).all fun k => (runK (chk (k + 1)) 20 [cS, bk (k + 1), vu 1, nm 0, vi 3, vu 1]).all (leafIs (.tup [bh 1 tg (k + 1) [], vu 1, vi 0])) (nF k)) = true := by kernel_rfl
theorem rep_run2 : ((List.range 20).all fun k => (runK (chk (k + 1)) 13 [cS, bh 1 tg (k + 1) [], vu 1, nm 0, vu 1, vb true]).all (leafIs (.tup [bh 1 td (k + 1) [], vi 0])) (nF k)) = true := by kernel_rfl
theorem subc_run : ((List.range 20).all fun k => (runK (chk (k + 1)) 17 [cS, bh 0 tc (k + 1) [], vu 1, sz, vi 0]).all (leafIs (.tup [bh 0 tc (k + 1) [tz], vi 0])) (nF k)) = true := by kernel_rfl
theorem subd_run : ((List.range 20).all fun k => (runK (chk (k + 1)) 17 [cS, bh 1 td (k + 1) [], vu 1, sz, vi 0]).all (leafIs (.tup [bh 1 td (k + 1) [tz], vi 0])) (nF k)) = true := by kernel_rfl
theorem subc2_run : ((List.range 20).all fun k => (runK (chk (k + 1)) 17 [cS, bh 0 tc (k + 1) [tz], vu 1, szz, vi 0]).all (leafIs (.tup [bh 0 tc (k + 1) [tz], vi 9])) (nF k)) = true := by kernel_rfl
theorem subd2_run : ((List.range 20).all fun k => (runK (chk (k + 1)) 17 [cS, bh 1 td (k + 1) [tz], vu 1, szz, vi 0]).all (leafIs (.tup [bh 1 td (k + 1) [tz], vi 9])) (nF k)) = true := by kernel_rfl
def opn (k : Nat) : PV := .sl false ((List.range k).map (fun i => nm (i + 1)) ++ [sz])
theorem openc_run : ((List.range 20).all fun k => (runK (chk (k + 1)) 25 [bh 0 tc (k + 1) [tz]]).all (leafIs (opn k)) (nF k)) = true := by kernel_rfl
theorem opend_run : ((List.range 20).all fun k => (runK (chk (k + 1)) 25 [bh 1 td (k + 1) [tz]]).all (leafIs (opn k)) (nF k)) = true := by kernel_rfl
def fullK (k : Nat) : List Known :=
  [⟨12, [cS], vb true⟩, ⟨17, [cS, bk (k + 1), vu 1, sz, vi 0], .tup [bk (k + 1), vi 9]⟩, ⟨16, [cS, bk (k + 1), vu 1, nm 0], .tup [bh 0 tc (k + 1) [], vi 0]⟩, ⟨20, [cS, bk (k + 1), vu 1, nm 0, vi 3, vu 1], .tup [bh 1 tg (k + 1) [], vu 1, vi 0]⟩,
   ⟨13, [cS, bh 1 tg (k + 1) [], vu 1, nm 0, vu 1, vb true], .tup [bh 1 td (k + 1) [], vi 0]⟩, ⟨17, [cS, bh 0 tc (k + 1) [], vu 1, sz, vi 0], .tup [bh 0 tc (k + 1) [tz], vi 0]⟩, ⟨17, [cS, bh 1 td (k + 1) [], vu 1, sz, vi 0], .tup [bh 1 td (k + 1) [tz], vi 0]⟩,
   ⟨17, [cS, bh 0 tc (k + 1) [tz], vu 1, szz, vi 0], .tup [bh 0 tc (k + 1) [tz], vi 9]⟩, ⟨17, [cS, bh 1 td (k + 1) [tz], vu 1, szz, vi 0], .tup [bh 1 td (k + 1) [tz], vi 9]⟩, ⟨25, [bh 0 tc (k + 1) [tz]], opn k⟩, ⟨25, [bh 1 td (k + 1) [tz]], opn k⟩]
  ++ (List.range (k + 1)).map fun j => ⟨17, [cS, bk j, vu 1, nm j, vi (j % 10 : Nat)], .tup [bk (j + 1), vi 0]⟩
theorem caps_run2 : (runK noK 12 [cS]).all leafTrue (atF 1 20) = true := by kernel_rfl
theorem fullK_ok {k : Nat} (hk : k < 20) (h0 : Val.i 0 = ((k + 1 : Nat) : Int)) (h1 : 1 ≤ Val.i 1 ∧ Val.i 1 ≤ 100) : KnownOk Try.prog (fullK k) := by
  have m := List.mem_range.2 hk
  have hF : (nF k).holds := atF_ok (by rw [h0]; exact ⟨Int.le_refl _, Int.le_refl _⟩) h1
  have hC := chk_ok hk (atF_ok (by rw [h0]; exact ⟨Int.le_refl _, by omega⟩) h1)
  refine known_app (l := [_, _, _, _, _, _, _, _, _, _, _]) ⟨trueK (l := noK) trivial (atF_ok (by rw [h0]; exact ⟨by omega, by omega⟩) h1) caps_run2, isK hC hF (List.all_eq_true.1 full_run k m), isK hC hF (List.all_eq_true.1 cancel_run k m), isK hC hF (List.all_eq_true.1 grant_run2 k m), isK hC hF (List.all_eq_true.1 rep_run2 k m),
    isK hC hF (List.all_eq_true.1 subc_run k m), isK hC hF (List.all_eq_true.1 subd_run k m), isK hC hF (List.all_eq_true.1 subc2_run k m), isK hC hF (List.all_eq_true.1 subd2_run k m), isK hC hF (List.all_eq_true.1 openc_run k m), isK hC hF (List.all_eq_true.1 opend_run k m), trivial⟩ (known_map fun j hj => ?_)
  have hj := List.mem_range.1 hj
  have hF' : (atF ((j + 1 : Nat) : Int) 20).holds := atF_ok (by rw [h0]; exact ⟨by omega, by omega⟩) h1
  exact isK (ent_ok (by omega) hF') hF' (List.all_eq_true.1 subs_run j (List.mem_range.2 (by omega)))
theorem law0_run : ((List.range 20).all fun k => (runK (fullK k) 7 [cS, vb false]).all leafTrue (nF k)) = true := by kernel_rfl
theorem law1_run : ((List.range 20).all fun k => (runK (fullK k) 7 [cS, vb true]).all leafTrue (nF k)) = true := by kernel_rfl
theorem bad1_run7 : ([true, false].all fun d => (runK noK 7 [cS, vb d]).all leafTrue (badF 0 (-9223372036854775808) 0)) = true := by kernel_rfl
theorem bad2_run7 : ([true, false].all fun d => (runK noK 7 [cS, vb d]).all leafTrue (badF 0 101 9223372036854775807)) = true := by kernel_rfl
theorem bad3_run7 : ([true, false].all fun d => (runK noK 7 [cS, vb d]).all leafTrue (badF 1 (-9223372036854775808) 0)) = true := by kernel_rfl
theorem bad4_run7 : ([true, false].all fun d => (runK noK 7 [cS, vb d]).all leafTrue (badF 1 101 9223372036854775807)) = true := by kernel_rfl
theorem bad5_run7 : ([true, false].all fun d => (runK noK 7 [cS, vb d]).all leafTrue (badF 0 21 9223372036854775807)) = true := by kernel_rfl
theorem full_sym (d : Bool) (h0 : -9223372036854775808 ≤ Val.i 0 ∧ Val.i 0 ≤ 9223372036854775807) (h1 : -9223372036854775808 ≤ Val.i 1 ∧ Val.i 1 ≤ 9223372036854775807) : VPure Try.prog 7 [cS, vb d] (vb true) := by
  have md : d ∈ [true, false] := by cases d <;> simp
  by_cases c1 : Val.i 0 < 1
  · exact trueK (l := noK) trivial (badF_ok (n := 0) ⟨h0.1, by omega⟩) (List.all_eq_true.1 bad1_run7 d md)
  by_cases c2 : 20 < Val.i 0
  · exact trueK (l := noK) trivial (badF_ok (n := 0) ⟨by omega, h0.2⟩) (List.all_eq_true.1 bad5_run7 d md)
  by_cases c3 : Val.i 1 < 1
  · exact trueK (l := noK) trivial (badF_ok (n := 1) ⟨h1.1, by omega⟩) (List.all_eq_true.1 bad3_run7 d md)
  by_cases c4 : 100 < Val.i 1
  · exact trueK (l := noK) trivial (badF_ok (n := 1) ⟨by omega, h1.2⟩) (List.all_eq_true.1 bad4_run7 d md)
  obtain ⟨k, hk, e⟩ : ∃ k : Nat, k < 20 ∧ Val.i 0 = ((k + 1 : Nat) : Int) := ⟨(Val.i 0 - 1).toNat, by omega, by omega⟩
  have hF : (nF k).holds := atF_ok (by rw [e]; exact ⟨Int.le_refl _, Int.le_refl _⟩) ⟨by omega, by omega⟩
  have m := List.mem_range.2 hk
  cases d with
  | false => exact trueK (fullK_ok hk e ⟨by omega, by omega⟩) hF (List.all_eq_true.1 law0_run k m)
  | true => exact trueK (fullK_ok hk e ⟨by omega, by omega⟩) hF (List.all_eq_true.1 law1_run k m)
end Go.Proofs.Ytoblcfkmggbheaa.VL
