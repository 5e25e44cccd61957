/- For every input the statement LoadStays of chapter 14 answers true, and what it was given reads as it did; a tied card: the tables of the library that its row lists are tied to the text. Conditions: none. -/
import Derived.Lib.SmallJoins
import Derived.LaidMore
import Derived.OpenShut
import Derived.Stop.Joined
import Derived.SevenTiedAt
import Derived.Test.YtianfmdemgfgaaaDoorRows
import Derived.Test.YtianfmdemgfgaaaDoorTie
import Derived.Test.YtianfmdemgfgaaaDoorCards
import Derived.Test.YtianfmdemgfgaaaDoorW1Yw
namespace Go.Proofs.YtianfmdemgfgaaaDoor.VL
open Go Go.Joins Go.ChangeShapes Go.WideShapes Go.ChangeAt Go.RowKit
set_option linter.unusedVariables false
set_option linter.unusedSimpArgs false
set_option maxRecDepth 100000
theorem ownK:ownKnob Tryd.prog.godebug=none:=by kernel_rfl
theorem laid:laidOutB Tryd.prog=true:=by kernel_rfl
@[reducible] def val0:Val:=⟨fun _=>1,fun _ _=>by decide,fun _=>false,fun _=>⟨#[]⟩⟩
def laidL:List (String×DataW Unit):=Rows.loadStaysRow.laid
theorem door_met (os:Os) (args:Array Value):laidMetH Tryd.prog laidL ((World.doorLaid Tryd.prog 400 os).forCall (fun _ _=>0) ⟨#[],args,[]⟩).memory :=
 laidMetH_of_parts3 (fuel:=8) (laidMet_of_run' 8 (by kernel_rfl) (by kernel_rfl)) (by kernel_rfl) (by kernel_rfl)
theorem loadStays_lifted (os:Os) (started:os.Started) (H:Type) (enc:TypeId×Value→H) :
  ReturnsInHanded {} Tryd.checked os 9 .any (fun w args=>(Rows.loadStaysSpec.pre enc Tryd.prog Tryd.f9 [] false w args∧laidMetH Tryd.prog laidL w)∧sizedMet enc Tryd.prog Tryd.f9 (OpenSpec.ofChange Rows.loadStaysSpec) false w args) (Rows.loadStaysSpec.post enc Tryd.prog Tryd.f9 false true false false):=by
 refine returnsInHanded_of_change_and (C:=Tryd.checked) (X:=fun w _=>laidMetH Tryd.prog laidL w) (fun _ _ _ hh h=>h.of_heap hh) ownK started (by kernel_rfl) Tryd.func9
  (ChangeSpec.witness_shaped (enc:=enc) (C:=Tryd.checked) (os:=os) (X:=fun w _=>laidMetH Tryd.prog laidL w) false (World.doorLaid Tryd.prog 400 os) #[.agg #[.slice none 0 0,.int .i64 0,.slice none 0 0,.slice none 0 0,.int .i64 0],.string ⟨#[]⟩] 20 rfl (World.shaped_of_RefB (by kernel_rfl) (by kernel_rfl)) (by kernel_rfl) (by kernel_rfl) (by kernel_rfl) (door_met os _)) ?_
 intro W base args ds gs before hval0 hW _ _ hL _
 letI:Val:=val0
 have hF:∀ v:DT ((.co (.v (.p (.sl (.i .i64)) (.p (.i .i64) (.p (.sl .s) (.p (.sl (.p .s (.i .i64))) (.i .i64)))))) (.co (.v .s) .no)):Fm).den,WfF (.co (.v (.p (.sl (.i .i64)) (.p (.i .i64) (.p (.sl .s) (.p (.sl (.p .s (.i .i64))) (.i .i64)))))) (.co (.v .s) .no)) v→F9t v=some true:=by
  rintro ⟨⟨nodes,sp,L,P,T⟩,nm⟩ ⟨⟨_,_,hL,_,_⟩,hn,_⟩
  exact F9t_ok (fun s hs=>hL.2 s hs) hn
 have hW':DataW.Whole enc Tryd.prog Tryd.f9.params.toList Rows.loadStaysSpec.vars false W args.toList ds gs before:=hW
 obtain ⟨p,q,hA0,hV,_,_,_⟩:=hW
 have hA:DataW.TrodAll enc Tryd.prog W 0 (fun _=>true) true Tryd.f9.params.toList args.toList ds p:=hA0
 rw [Tryd.params9] at hA
 obtain ⟨v0,vs0,d0,ds0,p0,q0,ea0,rfl,rfl,h0,hA⟩:=trodAll_cons hA
 obtain ⟨v1,vs1,d1,ds1,p1,q1,ea1,rfl,rfl,h1,hA⟩:=trodAll_cons hA
 obtain ⟨rfl,rfl,rfl⟩:=trodAll_nil hA
 obtain ⟨rfl,rfl⟩:=trodVars_none hV
 exact law_tail laid pe9t_ok hF (d:=20) (tb:=4) (by kernel_rfl) rfl Tryd.underlying4 rfl (by kernel_rfl) hval0 hW' rfl
theorem loadStays_holds:Rows.LoadStaysSaid :=
 OpenClaim.holds_of_wide 9 Tryd.f9 rfl rfl rfl rfl rfl rfl rfl ⟨rfl,rfl,rfl,rfl,rfl⟩ rfl rfl rfl rfl rfl (by kernel_rfl) Tryd.func9 (by kernel_rfl)
  (of_decide_eq_true (by kernel_rfl)) (by unfold Func.isWrapper; first | (rw [if_pos (by decide +kernel)]; kernel_rfl) | (rw [if_neg (by decide +kernel)]; exact ⟨rfl,rfl⟩))
  (fun os started H enc _=>loadStays_lifted os started H enc)
theorem loadStays_card:Rows.LoadStaysCardSaid :=
 Claim7.holds_tied_plain_at .later [] [.data,.data,.data] true (true,"ba939a3c4c72552d133f4dca3a8dbb4fc69d8e7ac3ce867b6fd3ecc2f25d00ba") false
  loadStays_holds (fun _ h=>by cases h) (by kernel_rfl) (fun _ h=>by cases h) loadStays_row_tie rfl ⟨rfl,rfl⟩ (by kernel_rfl) rfl
  (fun f fn hf hfn=>by
   obtain rfl:f=9:=Option.some.inj ((show Tryd.prog.funcNamed "tattle/tattlelaw14.LoadStays" = some 9 by kernel_rfl).symm.trans hf) |>.symm
   obtain rfl:fn=Tryd.f9:=(Option.some.inj (Tryd.func9.symm.trans hfn)).symm
   exact ⟨by kernel_rfl,fun j t ht=>by
    rw [Tryd.params9] at ht
    have hm:t ∈ [26,9]:=by simpa using Array.mem_of_getElem? ht
    have hall:([26,9].all fun u=>!Tryd.prog.wantsStandIn u)=true:=by kernel_rfl
    exact (show Tryd.prog.wantsStandIn t=false by simpa using List.all_eq_true.1 hall t hm)⟩)
  (by kernel_rfl)
end Go.Proofs.YtianfmdemgfgaaaDoor.VL
