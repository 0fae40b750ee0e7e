/-
  DERIVED. GIVEN WITH THE SEED: THE CARDS: each row of YtgnmjfnkibbnkaaGreatDoorRows.lean that lists a variable, with what it lists TIED to the program's text (the seventh form; the later family's looks); each row that meets fmt, with fmt's text TOLD by the authors' own Lean function (tested against real Go, not proved from fmt's source: count such statements apart). THE CARD IS WHAT COUNTS. Prove the row's statement (the work); the ties are given (YtgnmjfnkibbnkaaGreatDoorTie.lean); close each card by the builder's one call (the guide's Derived/Test/ToyasCard.lean, 'card_holds'). Laid BY PROGRAM, IN A SANDBOX (cutbox-door.mjs). By AI agents, Wed Nov 11 2026. No macro, syntax, notation, axiom, sorry.
-/
import Derived.Test.YtgnmjfnkibbnkaaGreatDoorRows
import GoSem.ClaimSeven
namespace Go.Proofs.YtgnmjfnkibbnkaaGreatDoor
namespace Rows

/-- THE TIED CARD OF 'pantrylaw26.ScriptReads'. -/
def scriptReadsCard : Claim7 := { stood := { row := scriptReadsRow, standIns := [], harness := (true, "22c92f9cce45c742f0c1e132f189b6511f71a43ca0e7cb0eb461c1d18212ec46"), looks := true }, kinds := [], alts := [], laidByText := true, laidKinds := [.handle], laidTests := true, laidLooks := .later }
def ScriptReadsCardSaid : Prop := Claim7.holds Tryz.pinned (.plain (OpenSpec.ofChange scriptReadsSpec)) scriptReadsCard

/-- THE TIED CARD OF 'pantrylaw26.ScriptBack'. -/
def scriptBackCard : Claim7 := { stood := { row := scriptBackRow, standIns := [], harness := (true, "22c92f9cce45c742f0c1e132f189b6511f71a43ca0e7cb0eb461c1d18212ec46"), looks := true }, kinds := [], alts := [], laidByText := true, laidKinds := [.handle], laidTests := true, laidLooks := .later }
def ScriptBackCardSaid : Prop := Claim7.holds Tryz.pinned (.plain (OpenSpec.ofChange scriptBackSpec)) scriptBackCard

/-- THE TIED CARD OF 'pantrylaw26.ScriptCuts'. -/
def scriptCutsCard : Claim7 := { stood := { row := scriptCutsRow, standIns := [], harness := (true, "22c92f9cce45c742f0c1e132f189b6511f71a43ca0e7cb0eb461c1d18212ec46"), looks := true }, kinds := [], alts := [], laidByText := true, laidKinds := [.handle], laidTests := true, laidLooks := .later }
def ScriptCutsCardSaid : Prop := Claim7.holds Tryz.pinned (.plain (OpenSpec.ofChange scriptCutsSpec)) scriptCutsCard

/-- THE SECOND FORM's CARD OF 'pantrylaw26.ScriptReads'. -/
def scriptReadsUptoCard : Claim7 := { stood := { row := scriptReadsUptoRow, standIns := [], harness := (true, "22c92f9cce45c742f0c1e132f189b6511f71a43ca0e7cb0eb461c1d18212ec46"), looks := true }, kinds := [], alts := [], laidByText := true, laidKinds := [.handle], laidTests := true, laidLooks := .later }
def ScriptReadsUptoCardSaid : Prop := Claim7.holds Tryz.pinned (.plain (OpenSpec.upto scriptReadsSpec)) scriptReadsUptoCard

/-- THE SECOND FORM's CARD OF 'pantrylaw26.ScriptBack'. -/
def scriptBackUptoCard : Claim7 := { stood := { row := scriptBackUptoRow, standIns := [], harness := (true, "22c92f9cce45c742f0c1e132f189b6511f71a43ca0e7cb0eb461c1d18212ec46"), looks := true }, kinds := [], alts := [], laidByText := true, laidKinds := [.handle], laidTests := true, laidLooks := .later }
def ScriptBackUptoCardSaid : Prop := Claim7.holds Tryz.pinned (.plain (OpenSpec.upto scriptBackSpec)) scriptBackUptoCard

/-- THE SECOND FORM's CARD OF 'pantrylaw26.ScriptCuts'. -/
def scriptCutsUptoCard : Claim7 := { stood := { row := scriptCutsUptoRow, standIns := [], harness := (true, "22c92f9cce45c742f0c1e132f189b6511f71a43ca0e7cb0eb461c1d18212ec46"), looks := true }, kinds := [], alts := [], laidByText := true, laidKinds := [.handle], laidTests := true, laidLooks := .later }
def ScriptCutsUptoCardSaid : Prop := Claim7.holds Tryz.pinned (.plain (OpenSpec.upto scriptCutsSpec)) scriptCutsUptoCard
end Rows
end Go.Proofs.YtgnmjfnkibbnkaaGreatDoor
