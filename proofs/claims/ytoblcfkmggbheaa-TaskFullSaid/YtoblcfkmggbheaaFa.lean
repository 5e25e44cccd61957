/- Chapter 19: contracts of calls at books that grow, whatever the tries are. -/
import Derived.Test.YtoblcfkmggbheaaEa
namespace Go.Proofs.Ytoblcfkmggbheaa.VL
open Go
set_option maxRecDepth 100000
set_option linter.unusedSectionVars false
variable [Val]
theorem known_map {α : Type} {g : α → Known} : ∀ {l : List α}, (∀ x ∈ l, VPure Try.prog (g x).f (g x).args (g x).r) → KnownOk Try.prog (l.map g)
  | [], _ => trivial
  | x :: l, h => ⟨h x (by simp), known_map fun y hy => h y (by simp [hy])⟩
theorem known_app : ∀ {l m : List Known}, KnownOk Try.prog l → KnownOk Try.prog m → KnownOk Try.prog (l ++ m)
  | [], _, _, h => h
  | _ :: _, _, hl, h => ⟨hl.1, known_app hl.2 h⟩

/-- So many may be open. -/
def atF (lo hi : Int) : Facts := ⟨[(0, lo, hi), (1, 1, 100)], [], []⟩
theorem atF_ok {lo hi : Int} (h0 : lo ≤ Val.i 0 ∧ Val.i 0 ≤ hi) (h1 : 1 ≤ Val.i 1 ∧ Val.i 1 ≤ 100) : (atF lo hi).holds := by
  refine ⟨fun r hr => ?_, fun e he => by simp [atF] at he, fun x hx => by simp [atF] at hx⟩
  simp only [atF, List.mem_cons, List.not_mem_nil, or_false] at hr
  rcases hr with rfl | rfl
  · exact h0
  · exact h1
def anyF : Facts := ⟨[], [], []⟩
theorem anyF_ok : anyF.holds := ⟨fun r hr => by simp [anyF] at hr, fun e he => by simp [anyF] at he, fun x hx => by simp [anyF] at hx⟩

def nm (k : Nat) : PV := vs ⟨#[97, UInt8.ofNat (97 + k)]⟩
def tk (k : Nat) : PV := .agg [nm k, vi 0, vi (k % 10 : Nat), vu 0, vi 0, vi (-1), vu 0]
def tz : PV := .agg [vs ⟨#[122]⟩, vi 0, vi 0, vu 0, vi 0, vi (-1), vu 0]
def tc : PV := .agg [nm 0, vi 4, vi 0, vu 0, vi 0, vi (-1), vu 0]
def tg : PV := .agg [nm 0, vi 1, vi 0, vu 1, vi 1, vi 3, vu 1]
def td : PV := .agg [nm 0, vi 2, vi 0, vu 1, vi 1, vi (-1), vu 0]
def bk (k : Nat) : PV := match k with | 0 => b0 | k + 1 => .agg [vu 1, vu 0, .sl false ((List.range (k + 1)).map tk)]
/-- The first one another one; and one more behind. -/
def bh (given : Int) (t : PV) (k : Nat) (r : List PV) : PV := .agg [vu 1, vu given, .sl false (t :: ((List.range (k - 1)).map (fun i => tk (i + 1)) ++ r))]
def odds (given : Int) : List Known := (List.range 20).map fun k => ⟨57, [tk k, vu given], vb false⟩
theorem odds0_run : ((List.range 20).all fun k => (runK noK 57 [tk k, vu 0]).all (leafIs (vb false)) anyF) = true := by kernel_rfl
theorem odds1_run : ((List.range 20).all fun k => (runK noK 57 [tk k, vu 1]).all (leafIs (vb false)) anyF) = true := by kernel_rfl
theorem oddz0_run : (runK noK 57 [tz, vu 0]).all (leafIs (vb false)) anyF = true := by kernel_rfl
theorem oddz1_run : (runK noK 57 [tz, vu 1]).all (leafIs (vb false)) anyF = true := by kernel_rfl
theorem oddc_run : (runK noK 57 [tc, vu 0]).all (leafIs (vb false)) anyF = true := by kernel_rfl
theorem oddg_run : (runK noK 57 [tg, vu 1]).all (leafIs (vb false)) anyF = true := by kernel_rfl
theorem oddd_run : (runK noK 57 [td, vu 1]).all (leafIs (vb false)) anyF = true := by kernel_rfl
def oddK : List Known := ⟨57, [tz, vu 0], vb false⟩ :: ⟨57, [tz, vu 1], vb false⟩ :: ⟨57, [tc, vu 0], vb false⟩ :: ⟨57, [tg, vu 1], vb false⟩ :: ⟨57, [td, vu 1], vb false⟩ :: (odds 0 ++ odds 1)
theorem oddK_ok : KnownOk Try.prog oddK := by
  refine ⟨isK (l := noK) trivial anyF_ok oddz0_run, isK (l := noK) trivial anyF_ok oddz1_run, isK (l := noK) trivial anyF_ok oddc_run, isK (l := noK) trivial anyF_ok oddg_run, isK (l := noK) trivial anyF_ok oddd_run, known_app (known_map fun k hk => ?_) (known_map fun k hk => ?_)⟩
  · exact isK (l := noK) trivial anyF_ok (List.all_eq_true.1 odds0_run k hk)
  · exact isK (l := noK) trivial anyF_ok (List.all_eq_true.1 odds1_run k hk)
theorem checks_run : ((List.range 21).all fun k => (runK oddK 26 [bk k]).all (leafIs (vi 0)) anyF) = true := by kernel_rfl
theorem checksc_run : ((List.range 20).all fun k => (runK oddK 26 [bh 0 tc (k + 1) [tz]]).all (leafIs (vi 0)) anyF) = true := by kernel_rfl
theorem checksc0_run : ((List.range 20).all fun k => (runK oddK 26 [bh 0 tc (k + 1) []]).all (leafIs (vi 0)) anyF) = true := by kernel_rfl
theorem checksg_run : ((List.range 20).all fun k => (runK oddK 26 [bh 1 tg (k + 1) []]).all (leafIs (vi 0)) anyF) = true := by kernel_rfl
theorem checksd0_run : ((List.range 20).all fun k => (runK oddK 26 [bh 1 td (k + 1) []]).all (leafIs (vi 0)) anyF) = true := by kernel_rfl
theorem checksd_run : ((List.range 20).all fun k => (runK oddK 26 [bh 1 td (k + 1) [tz]]).all (leafIs (vi 0)) anyF) = true := by kernel_rfl
end Go.Proofs.Ytoblcfkmggbheaa.VL
