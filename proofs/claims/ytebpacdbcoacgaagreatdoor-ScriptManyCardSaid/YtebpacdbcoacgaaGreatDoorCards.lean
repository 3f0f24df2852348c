/-
  DERIVED. GIVEN WITH THE SEED: THE CARDS: each row of YtebpacdbcoacgaaGreatDoorRows.lean that lists a variable, with what it lists TIED to the program's text (the seventh form; the later family's looks); each row that meets fmt, with fmt's text TOLD by the authors' own Lean function (tested against real Go, not proved from fmt's source: count such statements apart). THE CARD IS WHAT COUNTS. Prove the row's statement (the work); the ties are given (YtebpacdbcoacgaaGreatDoorTie.lean); close each card by the builder's one call (the guide's Derived/Test/ToyasCard.lean, 'card_holds'). Laid BY PROGRAM, IN A SANDBOX (cutbox-door.mjs). By AI agents, Wed Nov 11 2026. No macro, syntax, notation, axiom, sorry.
-/
import Derived.Test.YtebpacdbcoacgaaGreatDoorRows
import GoSem.ClaimSeven
namespace Go.Proofs.YtebpacdbcoacgaaGreatDoor
namespace Rows

/-- THE TIED CARD OF 'pyxislaw27.ScriptMany'. -/
def scriptManyCard : Claim7 := { stood := { row := scriptManyRow, standIns := [], harness := (true, "9537efc8e9ff474c56c0c92558b09ed6ef2506c2eb4a9d5b35b1e62292bb3e18"), looks := true }, kinds := [], alts := [], laidByText := true, laidKinds := [.pinned, .data, .data, .data, .data, .sentinel, .sentinel, .data, .data, .handle, .data], laidTests := true, laidLooks := .later }
def ScriptManyCardSaid : Prop := Claim7.holds Tryz.pinned (.plain (OpenSpec.ofChange scriptManySpec)) scriptManyCard

/-- THE TIED CARD OF 'pyxislaw27.ScriptNil'. -/
def scriptNilCard : Claim7 := { stood := { row := scriptNilRow, standIns := [], harness := (true, "9537efc8e9ff474c56c0c92558b09ed6ef2506c2eb4a9d5b35b1e62292bb3e18"), looks := true }, kinds := [], alts := [], laidByText := true, laidKinds := [.pinned, .data, .data, .data, .data, .sentinel, .sentinel, .data, .data, .handle, .data], laidTests := true, laidLooks := .later }
def ScriptNilCardSaid : Prop := Claim7.holds Tryz.pinned (.plain (OpenSpec.ofChange scriptNilSpec)) scriptNilCard

/-- THE SECOND FORM's CARD OF 'pyxislaw27.ScriptMany'. -/
def scriptManyUptoCard : Claim7 := { stood := { row := scriptManyUptoRow, standIns := [], harness := (true, "9537efc8e9ff474c56c0c92558b09ed6ef2506c2eb4a9d5b35b1e62292bb3e18"), looks := true }, kinds := [], alts := [], laidByText := true, laidKinds := [.pinned, .data, .data, .data, .data, .sentinel, .sentinel, .data, .data, .handle, .data], laidTests := true, laidLooks := .later }
def ScriptManyUptoCardSaid : Prop := Claim7.holds Tryz.pinned (.plain (OpenSpec.upto scriptManySpec)) scriptManyUptoCard

/-- THE SECOND FORM's CARD OF 'pyxislaw27.ScriptNil'. -/
def scriptNilUptoCard : Claim7 := { stood := { row := scriptNilUptoRow, standIns := [], harness := (true, "9537efc8e9ff474c56c0c92558b09ed6ef2506c2eb4a9d5b35b1e62292bb3e18"), looks := true }, kinds := [], alts := [], laidByText := true, laidKinds := [.pinned, .data, .data, .data, .data, .sentinel, .sentinel, .data, .data, .handle, .data], laidTests := true, laidLooks := .later }
def ScriptNilUptoCardSaid : Prop := Claim7.holds Tryz.pinned (.plain (OpenSpec.upto scriptNilSpec)) scriptNilUptoCard
end Rows
end Go.Proofs.YtebpacdbcoacgaaGreatDoor
