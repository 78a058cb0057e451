/-
  DERIVED. GIVEN WITH THE SEED: THE CARDS: each row of YtcfckooammacmaaDoorRows.lean that lists a variable, with what it lists TIED to the program's text (the seventh form; the later family's looks); each row that meets fmt, with fmt's text TOLD by the authors' own Lean function (tested against real Go, not proved from fmt's source: count such statements apart). THE CARD IS WHAT COUNTS. Prove the row's statement (the work); the ties are given (YtcfckooammacmaaDoorTie.lean); close each card by the builder's one call (the guide's Derived/Test/ToyasCard.lean, 'card_holds'). Laid BY PROGRAM, IN A SANDBOX (cutbox-door.mjs). By AI agents, Wed Nov 11 2026. No macro, syntax, notation, axiom, sorry.
-/
import Derived.Test.YtcfckooammacmaaDoorRows
import GoSem.ClaimSeven
namespace Go.Proofs.YtcfckooammacmaaDoor
namespace Rows

/-- THE TIED CARD OF 'ensemblelaw01.MaskSteps'. -/
def maskStepsCard : Claim7 := { stood := { row := maskStepsRow, standIns := [], harness := (true, "6442b0a37e297efe074e014cd0432b07ab057f2ddfd3baea3df7bc238585f519"), looks := false }, kinds := [], alts := [], laidByText := true, laidKinds := [.data], laidTests := true, laidLooks := .later }
def MaskStepsCardSaid : Prop := Claim7.holds Tryd.pinned (.plain (OpenSpec.ofChange maskStepsSpec)) maskStepsCard

/-- THE TIED CARD OF 'ensemblelaw01.MaskFirsts'. -/
def maskFirstsCard : Claim7 := { stood := { row := maskFirstsRow, standIns := [], harness := (true, "6442b0a37e297efe074e014cd0432b07ab057f2ddfd3baea3df7bc238585f519"), looks := false }, kinds := [], alts := [], laidByText := true, laidKinds := [.data], laidTests := true, laidLooks := .later }
def MaskFirstsCardSaid : Prop := Claim7.holds Tryd.pinned (.plain (OpenSpec.ofChange maskFirstsSpec)) maskFirstsCard

/-- THE TIED CARD OF 'ensemblelaw01.MaskBack'. -/
def maskBackCard : Claim7 := { stood := { row := maskBackRow, standIns := [], harness := (true, "6442b0a37e297efe074e014cd0432b07ab057f2ddfd3baea3df7bc238585f519"), looks := false }, kinds := [], alts := [], laidByText := true, laidKinds := [.data], laidTests := true, laidLooks := .later }
def MaskBackCardSaid : Prop := Claim7.holds Tryd.pinned (.plain (OpenSpec.ofChange maskBackSpec)) maskBackCard

/-- THE TIED CARD OF 'ensemblelaw01.MaskTells'. -/
def maskTellsCard : Claim7 := { stood := { row := maskTellsRow, standIns := [], harness := (true, "6442b0a37e297efe074e014cd0432b07ab057f2ddfd3baea3df7bc238585f519"), looks := false }, kinds := [], alts := [], laidByText := true, laidKinds := [.data], laidTests := true, laidLooks := .later }
def MaskTellsCardSaid : Prop := Claim7.holds Tryd.pinned (.plain (OpenSpec.ofChange maskTellsSpec)) maskTellsCard

/-- THE SECOND FORM's CARD OF 'ensemblelaw01.MaskSteps'. -/
def maskStepsUptoCard : Claim7 := { stood := { row := maskStepsUptoRow, standIns := [], harness := (true, "6442b0a37e297efe074e014cd0432b07ab057f2ddfd3baea3df7bc238585f519"), looks := false }, kinds := [], alts := [], laidByText := true, laidKinds := [.data], laidTests := true, laidLooks := .later }
def MaskStepsUptoCardSaid : Prop := Claim7.holds Tryd.pinned (.plain (OpenSpec.upto maskStepsSpec)) maskStepsUptoCard

/-- THE SECOND FORM's CARD OF 'ensemblelaw01.MaskFirsts'. -/
def maskFirstsUptoCard : Claim7 := { stood := { row := maskFirstsUptoRow, standIns := [], harness := (true, "6442b0a37e297efe074e014cd0432b07ab057f2ddfd3baea3df7bc238585f519"), looks := false }, kinds := [], alts := [], laidByText := true, laidKinds := [.data], laidTests := true, laidLooks := .later }
def MaskFirstsUptoCardSaid : Prop := Claim7.holds Tryd.pinned (.plain (OpenSpec.upto maskFirstsSpec)) maskFirstsUptoCard

/-- THE SECOND FORM's CARD OF 'ensemblelaw01.MaskBack'. -/
def maskBackUptoCard : Claim7 := { stood := { row := maskBackUptoRow, standIns := [], harness := (true, "6442b0a37e297efe074e014cd0432b07ab057f2ddfd3baea3df7bc238585f519"), looks := false }, kinds := [], alts := [], laidByText := true, laidKinds := [.data], laidTests := true, laidLooks := .later }
def MaskBackUptoCardSaid : Prop := Claim7.holds Tryd.pinned (.plain (OpenSpec.upto maskBackSpec)) maskBackUptoCard

/-- THE SECOND FORM's CARD OF 'ensemblelaw01.MaskTells'. -/
def maskTellsUptoCard : Claim7 := { stood := { row := maskTellsUptoRow, standIns := [], harness := (true, "6442b0a37e297efe074e014cd0432b07ab057f2ddfd3baea3df7bc238585f519"), looks := false }, kinds := [], alts := [], laidByText := true, laidKinds := [.data], laidTests := true, laidLooks := .later }
def MaskTellsUptoCardSaid : Prop := Claim7.holds Tryd.pinned (.plain (OpenSpec.upto maskTellsSpec)) maskTellsUptoCard
end Rows
end Go.Proofs.YtcfckooammacmaaDoor
