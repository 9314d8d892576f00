/-
  DERIVED. GIVEN WITH THE SEED: THE CARDS: each row of YtmajnoefddbflaaDoorRows.lean that lists a variable, with what it lists TIED to the program's text (the seventh form; the later family's looks); each row that meets fmt, with fmt's text TOLD by the authors' own Lean function (tested against real Go, not proved from fmt's source: count such statements apart). THE CARD IS WHAT COUNTS. Prove the row's statement (the work); the ties are given (YtmajnoefddbflaaDoorTie.lean); close each card by the builder's one call (the guide's Derived/Test/ToyasCard.lean, 'card_holds'). Laid BY PROGRAM, IN A SANDBOX (cutbox-door.mjs). By AI agents, Wed Nov 11 2026. No macro, syntax, notation, axiom, sorry.
-/
import Derived.Test.YtmajnoefddbflaaDoorRows
import GoSem.ClaimSeven
namespace Go.Proofs.YtmajnoefddbflaaDoor
namespace Rows

/-- THE TIED CARD OF 'syngraphlaw23.AnchorCrashes'. -/
def anchorCrashesCard : Claim7 := { stood := { row := anchorCrashesRow, standIns := [], harness := (true, "849c0f6f552a11be7c3233b8acd9b5b5e88ac452bc18c506fa4736d0eb5b5e9e"), looks := false }, kinds := [], alts := [], laidByText := true, laidKinds := [.data, .data, .data, .data, .data, .data, .pinned], laidTests := true, laidLooks := .later }
def AnchorCrashesCardSaid : Prop := Claim7.holds Tryd.pinned (.plain (OpenSpec.ofChange anchorCrashesSpec)) anchorCrashesCard

/-- THE TIED CARD OF 'syngraphlaw22.HistoryCollides'. -/
def historyCollidesCard : Claim7 := { stood := { row := historyCollidesRow, standIns := [], harness := (true, "849c0f6f552a11be7c3233b8acd9b5b5e88ac452bc18c506fa4736d0eb5b5e9e"), looks := false }, kinds := [], alts := [], laidByText := true, laidKinds := [.data, .data, .data, .data, .data, .data, .pinned], laidTests := true, laidLooks := .later }
def HistoryCollidesCardSaid : Prop := Claim7.holds Tryd.pinned (.plain (OpenSpec.ofChange historyCollidesSpec)) historyCollidesCard

/-- THE SECOND FORM's CARD OF 'syngraphlaw23.AnchorCrashes'. -/
def anchorCrashesUptoCard : Claim7 := { stood := { row := anchorCrashesUptoRow, standIns := [], harness := (true, "849c0f6f552a11be7c3233b8acd9b5b5e88ac452bc18c506fa4736d0eb5b5e9e"), looks := false }, kinds := [], alts := [], laidByText := true, laidKinds := [.data, .data, .data, .data, .data, .data, .pinned], laidTests := true, laidLooks := .later }
def AnchorCrashesUptoCardSaid : Prop := Claim7.holds Tryd.pinned (.plain (OpenSpec.upto anchorCrashesSpec)) anchorCrashesUptoCard

/-- THE SECOND FORM's CARD OF 'syngraphlaw22.HistoryCollides'. -/
def historyCollidesUptoCard : Claim7 := { stood := { row := historyCollidesUptoRow, standIns := [], harness := (true, "849c0f6f552a11be7c3233b8acd9b5b5e88ac452bc18c506fa4736d0eb5b5e9e"), looks := false }, kinds := [], alts := [], laidByText := true, laidKinds := [.data, .data, .data, .data, .data, .data, .pinned], laidTests := true, laidLooks := .later }
def HistoryCollidesUptoCardSaid : Prop := Claim7.holds Tryd.pinned (.plain (OpenSpec.upto historyCollidesSpec)) historyCollidesUptoCard
end Rows
end Go.Proofs.YtmajnoefddbflaaDoor
