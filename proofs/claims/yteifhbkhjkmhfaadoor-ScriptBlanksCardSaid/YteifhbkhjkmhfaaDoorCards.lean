/-
  DERIVED. GIVEN WITH THE SEED: THE CARDS: each row of YteifhbkhjkmhfaaDoorRows.lean that lists a variable, with what it lists TIED to the program's text (the seventh form; the later family's looks); each row that meets fmt, with fmt's text TOLD by the authors' own Lean function (tested against real Go, not proved from fmt's source: count such statements apart). THE CARD IS WHAT COUNTS. Prove the row's statement (the work); the ties are given (YteifhbkhjkmhfaaDoorTie.lean); close each card by the builder's one call (the guide's Derived/Test/ToyasCard.lean, 'card_holds'). Laid BY PROGRAM, IN A SANDBOX (cutbox-door.mjs). By AI agents, Wed Nov 11 2026. No macro, syntax, notation, axiom, sorry.
-/
import Derived.Test.YteifhbkhjkmhfaaDoorRows
import GoSem.ClaimSeven
namespace Go.Proofs.YteifhbkhjkmhfaaDoor
namespace Rows

/-- THE TIED CARD OF 'stilemanlaw19.ScriptParses'. -/
def scriptParsesCard : Claim7 := { stood := { row := scriptParsesRow, standIns := [], harness := (true, "3a8d287edc42a275d079424a54631c219b9fa6d82c38c4dc5842d857664045ef"), looks := true }, kinds := [], alts := [], laidByText := true, laidKinds := [.data, .data, .data, .data, .sentinel, .sentinel, .pinned], laidTests := true, laidLooks := .later }
def ScriptParsesCardSaid : Prop := Claim7.holds Tryd.pinned (.plain (OpenSpec.ofChange scriptParsesSpec)) scriptParsesCard

/-- THE TIED CARD OF 'stilemanlaw19.ScriptBlanks'. -/
def scriptBlanksCard : Claim7 := { stood := { row := scriptBlanksRow, standIns := [], harness := (true, "3a8d287edc42a275d079424a54631c219b9fa6d82c38c4dc5842d857664045ef"), looks := true }, kinds := [], alts := [], laidByText := true, laidKinds := [.data, .data, .data, .data, .sentinel, .sentinel, .pinned], laidTests := true, laidLooks := .later }
def ScriptBlanksCardSaid : Prop := Claim7.holds Tryd.pinned (.plain (OpenSpec.ofChange scriptBlanksSpec)) scriptBlanksCard

/-- THE TIED CARD OF 'stilemanlaw05.NoteReads'. -/
def noteReadsCard : Claim7 := { stood := { row := noteReadsRow, standIns := [], harness := (true, "3a8d287edc42a275d079424a54631c219b9fa6d82c38c4dc5842d857664045ef"), looks := true }, kinds := [], alts := [], laidByText := true, laidKinds := [.data, .data, .data, .data, .sentinel, .sentinel, .pinned], laidTests := true, laidLooks := .later }
def NoteReadsCardSaid : Prop := Claim7.holds Tryd.pinned (.plain (OpenSpec.ofChange noteReadsSpec)) noteReadsCard

/-- THE TIED CARD OF 'stilemanlaw19.ScriptRounds'. -/
def scriptRoundsCard : Claim7 := { stood := { row := scriptRoundsRow, standIns := [], harness := (true, "3a8d287edc42a275d079424a54631c219b9fa6d82c38c4dc5842d857664045ef"), looks := true }, kinds := [], alts := [], laidByText := true, laidKinds := [.data, .data, .data, .data, .sentinel, .sentinel, .pinned], laidTests := true, laidLooks := .later }
def ScriptRoundsCardSaid : Prop := Claim7.holds Tryd.pinned (.plain (OpenSpec.ofChange scriptRoundsSpec)) scriptRoundsCard

/-- THE TIED CARD OF 'stilemanlaw19.ScriptTexts'. -/
def scriptTextsCard : Claim7 := { stood := { row := scriptTextsRow, standIns := [], harness := (true, "3a8d287edc42a275d079424a54631c219b9fa6d82c38c4dc5842d857664045ef"), looks := true }, kinds := [], alts := [], laidByText := true, laidKinds := [.data, .data, .data, .data, .sentinel, .sentinel, .pinned], laidTests := true, laidLooks := .later }
def ScriptTextsCardSaid : Prop := Claim7.holds Tryd.pinned (.plain (OpenSpec.ofChange scriptTextsSpec)) scriptTextsCard

/-- THE TIED CARD OF 'stilemanlaw04.AccTexts'. -/
def accTextsCard : Claim7 := { stood := { row := accTextsRow, standIns := [], harness := (true, "3a8d287edc42a275d079424a54631c219b9fa6d82c38c4dc5842d857664045ef"), looks := true }, kinds := [], alts := [], laidByText := true, laidKinds := [.data, .data, .data, .data, .sentinel, .sentinel, .pinned], laidTests := true, laidLooks := .later }
def AccTextsCardSaid : Prop := Claim7.holds Tryd.pinned (.plain (OpenSpec.ofChange accTextsSpec)) accTextsCard

/-- THE TIED CARD OF 'stilemanlaw04.AccReads'. -/
def accReadsCard : Claim7 := { stood := { row := accReadsRow, standIns := [], harness := (true, "3a8d287edc42a275d079424a54631c219b9fa6d82c38c4dc5842d857664045ef"), looks := true }, kinds := [], alts := [], laidByText := true, laidKinds := [.data, .data, .data, .data, .sentinel, .sentinel, .pinned], laidTests := true, laidLooks := .later }
def AccReadsCardSaid : Prop := Claim7.holds Tryd.pinned (.plain (OpenSpec.ofChange accReadsSpec)) accReadsCard

/-- THE SECOND FORM's CARD OF 'stilemanlaw19.ScriptParses'. -/
def scriptParsesUptoCard : Claim7 := { stood := { row := scriptParsesUptoRow, standIns := [], harness := (true, "3a8d287edc42a275d079424a54631c219b9fa6d82c38c4dc5842d857664045ef"), looks := true }, kinds := [], alts := [], laidByText := true, laidKinds := [.data, .data, .data, .data, .sentinel, .sentinel, .pinned], laidTests := true, laidLooks := .later }
def ScriptParsesUptoCardSaid : Prop := Claim7.holds Tryd.pinned (.plain (OpenSpec.upto scriptParsesSpec)) scriptParsesUptoCard

/-- THE SECOND FORM's CARD OF 'stilemanlaw19.ScriptBlanks'. -/
def scriptBlanksUptoCard : Claim7 := { stood := { row := scriptBlanksUptoRow, standIns := [], harness := (true, "3a8d287edc42a275d079424a54631c219b9fa6d82c38c4dc5842d857664045ef"), looks := true }, kinds := [], alts := [], laidByText := true, laidKinds := [.data, .data, .data, .data, .sentinel, .sentinel, .pinned], laidTests := true, laidLooks := .later }
def ScriptBlanksUptoCardSaid : Prop := Claim7.holds Tryd.pinned (.plain (OpenSpec.upto scriptBlanksSpec)) scriptBlanksUptoCard

/-- THE SECOND FORM's CARD OF 'stilemanlaw05.NoteReads'. -/
def noteReadsUptoCard : Claim7 := { stood := { row := noteReadsUptoRow, standIns := [], harness := (true, "3a8d287edc42a275d079424a54631c219b9fa6d82c38c4dc5842d857664045ef"), looks := true }, kinds := [], alts := [], laidByText := true, laidKinds := [.data, .data, .data, .data, .sentinel, .sentinel, .pinned], laidTests := true, laidLooks := .later }
def NoteReadsUptoCardSaid : Prop := Claim7.holds Tryd.pinned (.plain (OpenSpec.upto noteReadsSpec)) noteReadsUptoCard

/-- THE SECOND FORM's CARD OF 'stilemanlaw19.ScriptRounds'. -/
def scriptRoundsUptoCard : Claim7 := { stood := { row := scriptRoundsUptoRow, standIns := [], harness := (true, "3a8d287edc42a275d079424a54631c219b9fa6d82c38c4dc5842d857664045ef"), looks := true }, kinds := [], alts := [], laidByText := true, laidKinds := [.data, .data, .data, .data, .sentinel, .sentinel, .pinned], laidTests := true, laidLooks := .later }
def ScriptRoundsUptoCardSaid : Prop := Claim7.holds Tryd.pinned (.plain (OpenSpec.upto scriptRoundsSpec)) scriptRoundsUptoCard

/-- THE SECOND FORM's CARD OF 'stilemanlaw19.ScriptTexts'. -/
def scriptTextsUptoCard : Claim7 := { stood := { row := scriptTextsUptoRow, standIns := [], harness := (true, "3a8d287edc42a275d079424a54631c219b9fa6d82c38c4dc5842d857664045ef"), looks := true }, kinds := [], alts := [], laidByText := true, laidKinds := [.data, .data, .data, .data, .sentinel, .sentinel, .pinned], laidTests := true, laidLooks := .later }
def ScriptTextsUptoCardSaid : Prop := Claim7.holds Tryd.pinned (.plain (OpenSpec.upto scriptTextsSpec)) scriptTextsUptoCard

/-- THE SECOND FORM's CARD OF 'stilemanlaw04.AccTexts'. -/
def accTextsUptoCard : Claim7 := { stood := { row := accTextsUptoRow, standIns := [], harness := (true, "3a8d287edc42a275d079424a54631c219b9fa6d82c38c4dc5842d857664045ef"), looks := true }, kinds := [], alts := [], laidByText := true, laidKinds := [.data, .data, .data, .data, .sentinel, .sentinel, .pinned], laidTests := true, laidLooks := .later }
def AccTextsUptoCardSaid : Prop := Claim7.holds Tryd.pinned (.plain (OpenSpec.upto accTextsSpec)) accTextsUptoCard

/-- THE SECOND FORM's CARD OF 'stilemanlaw04.AccReads'. -/
def accReadsUptoCard : Claim7 := { stood := { row := accReadsUptoRow, standIns := [], harness := (true, "3a8d287edc42a275d079424a54631c219b9fa6d82c38c4dc5842d857664045ef"), looks := true }, kinds := [], alts := [], laidByText := true, laidKinds := [.data, .data, .data, .data, .sentinel, .sentinel, .pinned], laidTests := true, laidLooks := .later }
def AccReadsUptoCardSaid : Prop := Claim7.holds Tryd.pinned (.plain (OpenSpec.upto accReadsSpec)) accReadsUptoCard
end Rows
end Go.Proofs.YteifhbkhjkmhfaaDoor
