/-
  DERIVED. GIVEN WITH THE SEED: THE CARDS: each row of YtcmlhpodghfheaaDoorRows.lean that lists a variable, with what it lists TIED to the program's text (the seventh form; the later family's looks); each row that meets fmt, with fmt's text TOLD by the authors' own Lean function (tested against real Go, not proved from fmt's source: count such statements apart). THE CARD IS WHAT COUNTS. Prove the row's statement (the work); the ties are given (YtcmlhpodghfheaaDoorTie.lean); close each card by the builder's one call (the guide's Derived/Test/ToyasCard.lean, 'card_holds'). Laid BY PROGRAM, IN A SANDBOX (cutbox-door.mjs). By AI agents, Wed Nov 11 2026. No macro, syntax, notation, axiom, sorry.
-/
import Derived.Test.YtcmlhpodghfheaaDoorRows
import GoSem.ClaimSeven
namespace Go.Proofs.YtcmlhpodghfheaaDoor
namespace Rows

/-- THE TIED CARD OF 'arbaclaw47.RankForms'. -/
def rankFormsCard : Claim7 := { stood := { row := rankFormsRow, standIns := [], harness := (true, "d47594da4e1903e51a42e74bcc18d205f2e2c483a9e4d33f38d38643d5c3e9f0"), looks := false }, kinds := [], alts := [], laidByText := true, laidKinds := [.data], laidTests := true, laidLooks := .later }
def RankFormsCardSaid : Prop := Claim7.holds Tryd.pinned (.plain (OpenSpec.ofChange rankFormsSpec)) rankFormsCard

/-- THE TIED CARD OF 'arbaclaw48.CoverTurns'. -/
def coverTurnsCard : Claim7 := { stood := { row := coverTurnsRow, standIns := [], harness := (true, "d47594da4e1903e51a42e74bcc18d205f2e2c483a9e4d33f38d38643d5c3e9f0"), looks := false }, kinds := [], alts := [], laidByText := true, laidKinds := [.data, .data, .pinned], laidTests := true, laidLooks := .later }
def CoverTurnsCardSaid : Prop := Claim7.holds Tryd.pinned (.plain (OpenSpec.ofChange coverTurnsSpec)) coverTurnsCard

/-- THE TIED CARD OF 'arbaclaw48.CoverValid'. -/
def coverValidCard : Claim7 := { stood := { row := coverValidRow, standIns := [], harness := (true, "d47594da4e1903e51a42e74bcc18d205f2e2c483a9e4d33f38d38643d5c3e9f0"), looks := false }, kinds := [], alts := [], laidByText := true, laidKinds := [.data, .data, .pinned], laidTests := true, laidLooks := .later }
def CoverValidCardSaid : Prop := Claim7.holds Tryd.pinned (.plain (OpenSpec.ofChange coverValidSpec)) coverValidCard

/-- THE SECOND FORM's CARD OF 'arbaclaw47.RankForms'. -/
def rankFormsUptoCard : Claim7 := { stood := { row := rankFormsUptoRow, standIns := [], harness := (true, "d47594da4e1903e51a42e74bcc18d205f2e2c483a9e4d33f38d38643d5c3e9f0"), looks := false }, kinds := [], alts := [], laidByText := true, laidKinds := [.data], laidTests := true, laidLooks := .later }
def RankFormsUptoCardSaid : Prop := Claim7.holds Tryd.pinned (.plain (OpenSpec.upto rankFormsSpec)) rankFormsUptoCard

/-- THE SECOND FORM's CARD OF 'arbaclaw48.CoverTurns'. -/
def coverTurnsUptoCard : Claim7 := { stood := { row := coverTurnsUptoRow, standIns := [], harness := (true, "d47594da4e1903e51a42e74bcc18d205f2e2c483a9e4d33f38d38643d5c3e9f0"), looks := false }, kinds := [], alts := [], laidByText := true, laidKinds := [.data, .data, .pinned], laidTests := true, laidLooks := .later }
def CoverTurnsUptoCardSaid : Prop := Claim7.holds Tryd.pinned (.plain (OpenSpec.upto coverTurnsSpec)) coverTurnsUptoCard

/-- THE SECOND FORM's CARD OF 'arbaclaw48.CoverValid'. -/
def coverValidUptoCard : Claim7 := { stood := { row := coverValidUptoRow, standIns := [], harness := (true, "d47594da4e1903e51a42e74bcc18d205f2e2c483a9e4d33f38d38643d5c3e9f0"), looks := false }, kinds := [], alts := [], laidByText := true, laidKinds := [.data, .data, .pinned], laidTests := true, laidLooks := .later }
def CoverValidUptoCardSaid : Prop := Claim7.holds Tryd.pinned (.plain (OpenSpec.upto coverValidSpec)) coverValidUptoCard
end Rows
end Go.Proofs.YtcmlhpodghfheaaDoor
