/-
  DERIVED. GIVEN WITH THE SEED: THE CARDS: each row of YtdohdcfmcmncfaaGreatDoorRows.lean that lists a variable, with what it lists TIED to the program's text (the seventh form; the later family's looks); each row that meets fmt, with fmt's text TOLD by the authors' own Lean function (tested against real Go, not proved from fmt's source: count such statements apart). THE CARD IS WHAT COUNTS. Prove the row's statement (the work); the ties are given (YtdohdcfmcmncfaaGreatDoorTie.lean); close each card by the builder's one call (the guide's Derived/Test/ToyasCard.lean, 'card_holds'). Laid BY PROGRAM, IN A SANDBOX (cutbox-door.mjs). By AI agents, Wed Nov 11 2026. No macro, syntax, notation, axiom, sorry.
-/
import Derived.Test.YtdohdcfmcmncfaaGreatDoorRows
import GoSem.ClaimSeven
namespace Go.Proofs.YtdohdcfmcmncfaaGreatDoor
namespace Rows

/-- THE TIED CARD OF 'tenementlaw26.StepKnown'. -/
def stepKnownCard : Claim7 := { stood := { row := stepKnownRow, standIns := [], harness := (true, "93f527a7ea6c39d9d05aa9bed2e931cd7998daf144effc54671faf4af7565a40"), looks := true }, kinds := [], alts := [], laidByText := true, laidKinds := [.pinned, .data, .data, .data, .data], laidTests := true, laidLooks := .later }
def StepKnownCardSaid : Prop := Claim7.holds Tryz.pinned (.plain (OpenSpec.ofChange stepKnownSpec)) stepKnownCard

/-- THE TIED CARD OF 'tenementlaw27.WorldKnown'. -/
def worldKnownCard : Claim7 := { stood := { row := worldKnownRow, standIns := [], harness := (true, "93f527a7ea6c39d9d05aa9bed2e931cd7998daf144effc54671faf4af7565a40"), looks := true }, kinds := [], alts := [], laidByText := true, laidKinds := [.pinned, .data, .data, .data, .data], laidTests := true, laidLooks := .later }
def WorldKnownCardSaid : Prop := Claim7.holds Tryz.pinned (.plain (OpenSpec.ofChange worldKnownSpec)) worldKnownCard

/-- THE TIED CARD OF 'tenementlaw28.ScriptKnown'. -/
def scriptKnownCard : Claim7 := { stood := { row := scriptKnownRow, standIns := [], harness := (true, "93f527a7ea6c39d9d05aa9bed2e931cd7998daf144effc54671faf4af7565a40"), looks := true }, kinds := [], alts := [], laidByText := true, laidKinds := [.pinned, .data, .sentinel, .sentinel, .data, .data, .data], laidTests := true, laidLooks := .later }
def ScriptKnownCardSaid : Prop := Claim7.holds Tryz.pinned (.plain (OpenSpec.ofChange scriptKnownSpec)) scriptKnownCard

/-- THE SECOND FORM's CARD OF 'tenementlaw26.StepKnown'. -/
def stepKnownUptoCard : Claim7 := { stood := { row := stepKnownUptoRow, standIns := [], harness := (true, "93f527a7ea6c39d9d05aa9bed2e931cd7998daf144effc54671faf4af7565a40"), looks := true }, kinds := [], alts := [], laidByText := true, laidKinds := [.pinned, .data, .data, .data, .data], laidTests := true, laidLooks := .later }
def StepKnownUptoCardSaid : Prop := Claim7.holds Tryz.pinned (.plain (OpenSpec.upto stepKnownSpec)) stepKnownUptoCard

/-- THE SECOND FORM's CARD OF 'tenementlaw27.WorldKnown'. -/
def worldKnownUptoCard : Claim7 := { stood := { row := worldKnownUptoRow, standIns := [], harness := (true, "93f527a7ea6c39d9d05aa9bed2e931cd7998daf144effc54671faf4af7565a40"), looks := true }, kinds := [], alts := [], laidByText := true, laidKinds := [.pinned, .data, .data, .data, .data], laidTests := true, laidLooks := .later }
def WorldKnownUptoCardSaid : Prop := Claim7.holds Tryz.pinned (.plain (OpenSpec.upto worldKnownSpec)) worldKnownUptoCard

/-- THE SECOND FORM's CARD OF 'tenementlaw28.ScriptKnown'. -/
def scriptKnownUptoCard : Claim7 := { stood := { row := scriptKnownUptoRow, standIns := [], harness := (true, "93f527a7ea6c39d9d05aa9bed2e931cd7998daf144effc54671faf4af7565a40"), looks := true }, kinds := [], alts := [], laidByText := true, laidKinds := [.pinned, .data, .sentinel, .sentinel, .data, .data, .data], laidTests := true, laidLooks := .later }
def ScriptKnownUptoCardSaid : Prop := Claim7.holds Tryz.pinned (.plain (OpenSpec.upto scriptKnownSpec)) scriptKnownUptoCard
end Rows
end Go.Proofs.YtdohdcfmcmncfaaGreatDoor
