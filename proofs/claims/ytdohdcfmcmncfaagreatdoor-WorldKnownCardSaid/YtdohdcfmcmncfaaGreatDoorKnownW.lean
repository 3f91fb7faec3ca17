/-
  WorldKnown: CALLED WITH NO ARGUMENTS, IN WHATEVER MEMORY, ON EVERY SCHEDULE, THE FUNCTION RETURNS true, and all that lay in memory ahead of the call is as it was. No condition; what the row lists of package-level variables is tied to the program's text.
-/
import Derived.Test.YtdohdcfmcmncfaaGreatDoorKnownRun
import Derived.Test.YtdohdcfmcmncfaaGreatDoorKnownEvW
import Derived.Test.YtdohdcfmcmncfaaGreatDoorKnownTie
import Derived.Test.YtdohdcfmcmncfaaGreatDoorKfWA
import Derived.Test.YtdohdcfmcmncfaaGreatDoorKfWB
import Derived.Test.YtdohdcfmcmncfaaGreatDoorKfWC
import Derived.Test.YtdohdcfmcmncfaaGreatDoorKfWD
import Derived.Test.YtdohdcfmcmncfaaGreatDoorKfLaid
import Derived.Test.YtdohdcfmcmncfaaGreatDoorKfMaps
import Derived.Test.YtdohdcfmcmncfaaGreatDoorKfSmallW
import Derived.Test.YtdohdcfmcmncfaaGreatDoorKfMain
import Derived.Test.YtdohdcfmcmncfaaGreatDoorKfGo
import Derived.Test.YtdohdcfmcmncfaaGreatDoorKfNmW
import Derived.Test.YtdohdcfmcmncfaaGreatDoorCards
import Derived.ProofKit
import Derived.LaidMore
import Derived.OpenShut
import Derived.Lay
import Derived.SevenTiedAt
namespace Go.Proofs.YtdohdcfmcmncfaaGreatDoor
open Go.ChangeShapes Go.WideShapes Go.ChangeAt Go.RowKit Go.Am
theorem world_closed : joinedFacts Tryz.pinned.checked.prog 4 Tryz.f4 Rows.worldKnownSpec Rows.worldKnownRow = true := by
  have ha := sW1
  have hb := sW2
  have hc := sW3
  have hd := sW5
  simp only [Bool.and_eq_true] at ha hb hc hd
  obtain ⟨⟨⟨⟨⟨a1, a2⟩, a3⟩, a4⟩, a5⟩, a6⟩ := ha
  obtain ⟨⟨⟨⟨b1, b2⟩, b3⟩, b4⟩, b5⟩ := hb
  obtain ⟨⟨⟨c1, c2⟩, c3⟩, c4⟩ := hc
  obtain ⟨⟨d1, d2⟩, d3⟩ := hd
  unfold joinedFacts
  simp only [Bool.and_eq_true]
  exact ⟨⟨⟨⟨⟨⟨⟨⟨⟨⟨⟨⟨⟨⟨⟨⟨⟨⟨⟨⟨⟨⟨⟨⟨⟨⟨⟨⟨⟨⟨⟨sW0, laid_out⟩, maps_rowed⟩, a1⟩, a2⟩, a3⟩, a4⟩, a5⟩, a6⟩, kWA⟩, kWB⟩, kWC⟩, kWD⟩, b1⟩, b2⟩, b3⟩, b4⟩, b5⟩, c1⟩, c2⟩, c3⟩, c4⟩, sW4⟩, d1⟩, d2⟩, d3⟩, sW6⟩, sW7⟩, (by kernel_rfl)⟩, sW8⟩, sW9⟩, sW10⟩
noncomputable abbrev world_w0 (os : Os) : World := World.laidAll Tryz.prog os Rows.worldKnownRow.laid
noncomputable abbrev world_w1 (os : Os) : World := (world_w0 os).forCall (fun _ _ => 0) ⟨#[], #[], []⟩
theorem world_a1 (os : Os) : (world_w1 os).variablesZipB Tryz.prog = true := by kernel_rfl
theorem world_a2 (os : Os) : ((world_w1 os).heap.toList.drop Tryz.prog.globals.size).take ((begin Tryz.prog (fun _ _ => 0) default).world.heap.size - Tryz.prog.globals.size) = (begin Tryz.prog (fun _ _ => 0) default).world.heap.toList.drop Tryz.prog.globals.size := by kernel_rfl
theorem world_a3 (os : Os) : Input.okWideB Tryz.checked.prog (world_w1 os) 4 ⟨#[], #[], []⟩ = true := by kernel_rfl
theorem world_a4 (os : Os) (H : Type) (enc : TypeId × Value → H) : Rows.worldKnownSpec.preB enc Tryz.checked.prog Tryz.f4 [] false (world_w1 os).memory #[] 8 = true := by kernel_rfl
theorem world_a5 (os : Os) (H : Type) (enc : TypeId × Value → H) : Rows.worldKnownSpec.sizedB enc Tryz.checked.prog Tryz.f4 false (world_w1 os).memory #[] 8 = true := by kernel_rfl
theorem world_a6 (os : Os) : (World.holding Tryz.prog os ⟨#[], #[], []⟩).layFits Tryz.prog Rows.worldKnownRow.laid [] = true := by kernel_rfl
theorem world_a7 (os : Os) : (World.holding Tryz.prog os ⟨#[], #[], []⟩).layIfaces Tryz.prog Rows.worldKnownRow.laid (World.laidAll Tryz.prog os Rows.worldKnownRow.laid) = true := by kernel_rfl
theorem world_plain_laid : (Rows.worldKnownRow.laid.all fun x => x.2.handleName?.isNone) = true := by kernel_rfl

theorem world_met (os : Os) : laidMetH Tryz.prog Rows.worldKnownRow.laid (world_w1 os).memory :=
  (MakeChecks.laidMetH_plain _ _ _ world_plain_laid).symm ▸ laidMet_laidAll #[] (world_a6 os) (world_a7 os)

theorem world_shp (os : Os) : (world_w1 os).Shaped Tryz.prog := World.shaped_of_ZipB (world_a1 os) (world_a2 os)

theorem world_wit (os : Os) (H : Type) (enc : TypeId × Value → H) : ∃ (w : World) (tape : Tape) (i : Input), w.os = os ∧ (w.forCall tape i).Shaped Tryz.checked.prog ∧ i.vars = [] ∧ Input.okWide Tryz.checked.prog (w.forCall tape i) .any w.heap.size 4 i ∧
      ((Rows.worldKnownSpec.pre enc Tryz.checked.prog Tryz.f4 [] false (w.forCall tape i).memory i.args ∧ laidMetH Tryz.prog Rows.worldKnownRow.laid (w.forCall tape i).memory) ∧ sizedMet enc Tryz.checked.prog Tryz.f4 (OpenSpec.ofChange Rows.worldKnownSpec) false (w.forCall tape i).memory i.args) ∧ ({ modest := false } : Assume).holds Tryz.checked.prog (lone (Frame.enter Tryz.checked.prog 4 i.args .normal) [] (w.forCall tape i)) :=
  ChangeSpec.witness_shaped (enc := enc) (C := Tryz.checked) (os := os) (f := 4) (fn := Tryz.f4) (s := Rows.worldKnownSpec) (conds := []) (apart := false) (X := fun w _ => laidMetH Tryz.prog Rows.worldKnownRow.laid w) false (world_w0 os) #[] 8 (World.laidAll_os _ _ _) (world_shp os) (world_a3 os) (world_a4 os H enc) (world_a5 os H enc) (world_met os)

set_option maxRecDepth 100000 in
theorem world_noInit : Tryz.checked.prog.inits.idxOf? 4 = none := by kernel_rfl
theorem res4 : Tryz.f4.resultTypes = #[4] := by kernel_rfl
set_option maxRecDepth 100000 in
theorem world_lifted (os : Os) (started : os.Started) (H : Type) (enc : TypeId × Value → H)
    (run : ∀ w, Calls Tryz.prog 4 #[] w fun e w' => e = .returned (.bool true) ∧ Below w.heap.size w w') :
    ReturnsInHanded {} Tryz.checked os 4 .any (fun w args => (Rows.worldKnownSpec.pre enc Tryz.prog Tryz.f4 [] false w args ∧ laidMetH Tryz.prog Rows.worldKnownRow.laid w) ∧ sizedMet enc Tryz.prog Tryz.f4 (OpenSpec.ofChange Rows.worldKnownSpec) false w args)
      (Rows.worldKnownSpec.post enc Tryz.prog Tryz.f4 false true false false) := by
  refine returnsInHanded_of_change_and (C := Tryz.checked) (X := fun w _ => laidMetH Tryz.prog Rows.worldKnownRow.laid w) (fun _ _ _ hh h => h.of_heap hh) own started world_noInit Tryz.func4
    (world_wit os H enc) ?_
  intro W base args ds gs before hval0 hW _ _ hL _
  have hW' := hW
  obtain ⟨p, q, hA0, hV, rfl, hfz, hnd⟩ := hW
  have hA : DataW.TrodAll enc Tryz.prog W 0 (fun _ => true) true Tryz.f4.params.toList args.toList ds p := hA0
  rw [Tryz.params4] at hA
  obtain ⟨rfl, rfl, rfl⟩ := trodAll_none hA
  obtain ⟨rfl, rfl⟩ := trodVars_none hV
  refine (run W).mono fun e W' ⟨he, hw⟩ => ?_
  subst he
  exact ⟨_, rfl, closed_post Tryz.params4 res4 rfl ⟨rfl, rfl, rfl⟩ hW' hw⟩

theorem world_holds : Rows.WorldKnownSaid :=
  OpenClaim.holds_of_wide 4 Tryz.f4 rfl rfl rfl rfl rfl rfl rfl ⟨rfl, rfl, rfl, rfl, rfl⟩ rfl rfl rfl rfl rfl namedW Tryz.func4 world_closed instW wrapW
    (fun os started H enc _ => world_lifted os started H enc (yes_calls world_yes))

theorem world_card : Rows.WorldKnownCardSaid :=
  Claim7.holds_tied_plain_at .later [] [.pinned, .data, .data, .data, .data] true (true, "93f527a7ea6c39d9d05aa9bed2e931cd7998daf144effc54671faf4af7565a40") true
    world_holds (fun _ h => by cases h) (by kernel_rfl) (fun _ h => by cases h) world_tied rfl ⟨rfl, rfl⟩ main_is rfl
    (fun f fn hf hfn => by
      obtain rfl : f = 4 := (Option.some.inj (namedW.symm.trans hf)).symm
      obtain rfl : fn = Tryz.f4 := (Option.some.inj (Tryz.func4.symm.trans hfn)).symm
      exact ⟨looks_are, fun j t ht => by
        rw [Tryz.params4] at ht
        simp at ht⟩)
    (goes_by _ no_goes _ rfl)
#print axioms world_card
end Go.Proofs.YtdohdcfmcmncfaaGreatDoor
