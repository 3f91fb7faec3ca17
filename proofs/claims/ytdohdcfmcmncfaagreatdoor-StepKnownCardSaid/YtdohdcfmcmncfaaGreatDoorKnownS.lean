/-
  StepKnown: CALLED WITH NO ARGUMENTS, IN WHATEVER MEMORY, ON EVERY SCHEDULE, THE FUNCTION RETURNS true, and all that lay in memory ahead of the call is as it was. No condition; what the row lists of package-level variables is tied to the program's text.
-/
import Derived.Test.YtdohdcfmcmncfaaGreatDoorKnownRun
import Derived.Test.YtdohdcfmcmncfaaGreatDoorKnownEvS
import Derived.Test.YtdohdcfmcmncfaaGreatDoorKnownTie
import Derived.Test.YtdohdcfmcmncfaaGreatDoorKfSA
import Derived.Test.YtdohdcfmcmncfaaGreatDoorKfSB
import Derived.Test.YtdohdcfmcmncfaaGreatDoorKfSC
import Derived.Test.YtdohdcfmcmncfaaGreatDoorKfSD
import Derived.Test.YtdohdcfmcmncfaaGreatDoorKfLaid
import Derived.Test.YtdohdcfmcmncfaaGreatDoorKfMaps
import Derived.Test.YtdohdcfmcmncfaaGreatDoorKfSmallS
import Derived.Test.YtdohdcfmcmncfaaGreatDoorKfMain
import Derived.Test.YtdohdcfmcmncfaaGreatDoorKfGo
import Derived.Test.YtdohdcfmcmncfaaGreatDoorKfNmS
import Derived.Test.YtdohdcfmcmncfaaGreatDoorCards
import Derived.ProofKit
import Derived.LaidMore
import Derived.OpenShut
import Derived.Lay
import Derived.SevenTiedAt
namespace Go.Proofs.YtdohdcfmcmncfaaGreatDoor
open Go.ChangeShapes Go.WideShapes Go.ChangeAt Go.RowKit Go.Am
theorem step_closed : joinedFacts Tryz.pinned.checked.prog 3 Tryz.f3 Rows.stepKnownSpec Rows.stepKnownRow = true := by
  have ha := sS1
  have hb := sS2
  have hc := sS3
  have hd := sS5
  simp only [Bool.and_eq_true] at ha hb hc hd
  obtain ⟨⟨⟨⟨⟨a1, a2⟩, a3⟩, a4⟩, a5⟩, a6⟩ := ha
  obtain ⟨⟨⟨⟨b1, b2⟩, b3⟩, b4⟩, b5⟩ := hb
  obtain ⟨⟨⟨c1, c2⟩, c3⟩, c4⟩ := hc
  obtain ⟨⟨d1, d2⟩, d3⟩ := hd
  unfold joinedFacts
  simp only [Bool.and_eq_true]
  exact ⟨⟨⟨⟨⟨⟨⟨⟨⟨⟨⟨⟨⟨⟨⟨⟨⟨⟨⟨⟨⟨⟨⟨⟨⟨⟨⟨⟨⟨⟨⟨sS0, laid_out⟩, maps_rowed⟩, a1⟩, a2⟩, a3⟩, a4⟩, a5⟩, a6⟩, kSA⟩, kSB⟩, kSC⟩, kSD⟩, b1⟩, b2⟩, b3⟩, b4⟩, b5⟩, c1⟩, c2⟩, c3⟩, c4⟩, sS4⟩, d1⟩, d2⟩, d3⟩, sS6⟩, sS7⟩, (by kernel_rfl)⟩, sS8⟩, sS9⟩, sS10⟩
noncomputable abbrev step_w0 (os : Os) : World := World.laidAll Tryz.prog os Rows.stepKnownRow.laid
noncomputable abbrev step_w1 (os : Os) : World := (step_w0 os).forCall (fun _ _ => 0) ⟨#[], #[], []⟩
theorem step_a1 (os : Os) : (step_w1 os).variablesZipB Tryz.prog = true := by kernel_rfl
theorem step_a2 (os : Os) : ((step_w1 os).heap.toList.drop Tryz.prog.globals.size).take ((begin Tryz.prog (fun _ _ => 0) default).world.heap.size - Tryz.prog.globals.size) = (begin Tryz.prog (fun _ _ => 0) default).world.heap.toList.drop Tryz.prog.globals.size := by kernel_rfl
theorem step_a3 (os : Os) : Input.okWideB Tryz.checked.prog (step_w1 os) 3 ⟨#[], #[], []⟩ = true := by kernel_rfl
theorem step_a4 (os : Os) (H : Type) (enc : TypeId × Value → H) : Rows.stepKnownSpec.preB enc Tryz.checked.prog Tryz.f3 [] false (step_w1 os).memory #[] 8 = true := by kernel_rfl
theorem step_a5 (os : Os) (H : Type) (enc : TypeId × Value → H) : Rows.stepKnownSpec.sizedB enc Tryz.checked.prog Tryz.f3 false (step_w1 os).memory #[] 8 = true := by kernel_rfl
theorem step_a6 (os : Os) : (World.holding Tryz.prog os ⟨#[], #[], []⟩).layFits Tryz.prog Rows.stepKnownRow.laid [] = true := by kernel_rfl
theorem step_a7 (os : Os) : (World.holding Tryz.prog os ⟨#[], #[], []⟩).layIfaces Tryz.prog Rows.stepKnownRow.laid (World.laidAll Tryz.prog os Rows.stepKnownRow.laid) = true := by kernel_rfl
theorem step_plain_laid : (Rows.stepKnownRow.laid.all fun x => x.2.handleName?.isNone) = true := by kernel_rfl

theorem step_met (os : Os) : laidMetH Tryz.prog Rows.stepKnownRow.laid (step_w1 os).memory :=
  (MakeChecks.laidMetH_plain _ _ _ step_plain_laid).symm ▸ laidMet_laidAll #[] (step_a6 os) (step_a7 os)

theorem step_shp (os : Os) : (step_w1 os).Shaped Tryz.prog := World.shaped_of_ZipB (step_a1 os) (step_a2 os)

theorem step_wit (os : Os) (H : Type) (enc : TypeId × Value → H) : ∃ (w : World) (tape : Tape) (i : Input), w.os = os ∧ (w.forCall tape i).Shaped Tryz.checked.prog ∧ i.vars = [] ∧ Input.okWide Tryz.checked.prog (w.forCall tape i) .any w.heap.size 3 i ∧
      ((Rows.stepKnownSpec.pre enc Tryz.checked.prog Tryz.f3 [] false (w.forCall tape i).memory i.args ∧ laidMetH Tryz.prog Rows.stepKnownRow.laid (w.forCall tape i).memory) ∧ sizedMet enc Tryz.checked.prog Tryz.f3 (OpenSpec.ofChange Rows.stepKnownSpec) false (w.forCall tape i).memory i.args) ∧ ({ modest := false } : Assume).holds Tryz.checked.prog (lone (Frame.enter Tryz.checked.prog 3 i.args .normal) [] (w.forCall tape i)) :=
  ChangeSpec.witness_shaped (enc := enc) (C := Tryz.checked) (os := os) (f := 3) (fn := Tryz.f3) (s := Rows.stepKnownSpec) (conds := []) (apart := false) (X := fun w _ => laidMetH Tryz.prog Rows.stepKnownRow.laid w) false (step_w0 os) #[] 8 (World.laidAll_os _ _ _) (step_shp os) (step_a3 os) (step_a4 os H enc) (step_a5 os H enc) (step_met os)

set_option maxRecDepth 100000 in
theorem step_noInit : Tryz.checked.prog.inits.idxOf? 3 = none := by kernel_rfl
theorem res3 : Tryz.f3.resultTypes = #[4] := by kernel_rfl
set_option maxRecDepth 100000 in
theorem step_lifted (os : Os) (started : os.Started) (H : Type) (enc : TypeId × Value → H)
    (run : ∀ w, Calls Tryz.prog 3 #[] w fun e w' => e = .returned (.bool true) ∧ Below w.heap.size w w') :
    ReturnsInHanded {} Tryz.checked os 3 .any (fun w args => (Rows.stepKnownSpec.pre enc Tryz.prog Tryz.f3 [] false w args ∧ laidMetH Tryz.prog Rows.stepKnownRow.laid w) ∧ sizedMet enc Tryz.prog Tryz.f3 (OpenSpec.ofChange Rows.stepKnownSpec) false w args)
      (Rows.stepKnownSpec.post enc Tryz.prog Tryz.f3 false true false false) := by
  refine returnsInHanded_of_change_and (C := Tryz.checked) (X := fun w _ => laidMetH Tryz.prog Rows.stepKnownRow.laid w) (fun _ _ _ hh h => h.of_heap hh) own started step_noInit Tryz.func3
    (step_wit os H enc) ?_
  intro W base args ds gs before hval0 hW _ _ hL _
  have hW' := hW
  obtain ⟨p, q, hA0, hV, rfl, hfz, hnd⟩ := hW
  have hA : DataW.TrodAll enc Tryz.prog W 0 (fun _ => true) true Tryz.f3.params.toList args.toList ds p := hA0
  rw [Tryz.params3] at hA
  obtain ⟨rfl, rfl, rfl⟩ := trodAll_none hA
  obtain ⟨rfl, rfl⟩ := trodVars_none hV
  refine (run W).mono fun e W' ⟨he, hw⟩ => ?_
  subst he
  exact ⟨_, rfl, closed_post Tryz.params3 res3 rfl ⟨rfl, rfl, rfl⟩ hW' hw⟩

theorem step_holds : Rows.StepKnownSaid :=
  OpenClaim.holds_of_wide 3 Tryz.f3 rfl rfl rfl rfl rfl rfl rfl ⟨rfl, rfl, rfl, rfl, rfl⟩ rfl rfl rfl rfl rfl namedS Tryz.func3 step_closed instS wrapS
    (fun os started H enc _ => step_lifted os started H enc (yes_calls step_yes))

theorem step_card : Rows.StepKnownCardSaid :=
  Claim7.holds_tied_plain_at .later [] [.pinned, .data, .data, .data, .data] true (true, "93f527a7ea6c39d9d05aa9bed2e931cd7998daf144effc54671faf4af7565a40") true
    step_holds (fun _ h => by cases h) (by kernel_rfl) (fun _ h => by cases h) step_tied rfl ⟨rfl, rfl⟩ main_is rfl
    (fun f fn hf hfn => by
      obtain rfl : f = 3 := (Option.some.inj (namedS.symm.trans hf)).symm
      obtain rfl : fn = Tryz.f3 := (Option.some.inj (Tryz.func3.symm.trans hfn)).symm
      exact ⟨looks_are, fun j t ht => by
        rw [Tryz.params3] at ht
        simp at ht⟩)
    (goes_by _ no_goes _ rfl)
#print axioms step_card
end Go.Proofs.YtdohdcfmcmncfaaGreatDoor
