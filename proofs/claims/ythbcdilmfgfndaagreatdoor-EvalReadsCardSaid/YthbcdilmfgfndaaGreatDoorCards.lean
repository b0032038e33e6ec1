/-
  DERIVED. GIVEN WITH THE SEED: THE CARDS: each row of YthbcdilmfgfndaaGreatDoorRows.lean that lists a variable, with what it lists TIED to the program's text (the seventh form; the later family's looks); each row that meets fmt, with fmt's text TOLD by the authors' own Lean function (tested against real Go, not proved from fmt's source: count such statements apart). THE CARD IS WHAT COUNTS. Prove the row's statement (the work); the ties are given (YthbcdilmfgfndaaGreatDoorTie.lean); close each card by the builder's one call (the guide's Derived/Test/ToyasCard.lean, 'card_holds'). Laid BY PROGRAM, IN A SANDBOX (cutbox-door.mjs). By AI agents, Wed Nov 11 2026. No macro, syntax, notation, axiom, sorry.
-/
import Derived.Test.YthbcdilmfgfndaaGreatDoorRows
import GoSem.ClaimSeven
namespace Go.Proofs.YthbcdilmfgfndaaGreatDoor
namespace Rows

/-- THE TIED CARD OF 'waferlaw23.EvalRuns'. -/
def evalRunsCard : Claim7 := { stood := { row := evalRunsRow, standIns := [], harness := (true, "c41c957ffba9738eb4eb473c900a3046c574f00f26c354db93da43ac71e47bbd"), looks := true }, kinds := [], alts := [], laidByText := true, laidKinds := [.data, .data, .data], laidTests := true, laidLooks := .later }
def EvalRunsCardSaid : Prop := Claim7.holds Tryz.pinned (.plain (OpenSpec.ofChange evalRunsSpec)) evalRunsCard

/-- THE TIED CARD OF 'waferlaw23.EvalFuel'. -/
def evalFuelCard : Claim7 := { stood := { row := evalFuelRow, standIns := [], harness := (true, "c41c957ffba9738eb4eb473c900a3046c574f00f26c354db93da43ac71e47bbd"), looks := true }, kinds := [], alts := [], laidByText := true, laidKinds := [.data, .data, .data], laidTests := true, laidLooks := .later }
def EvalFuelCardSaid : Prop := Claim7.holds Tryz.pinned (.plain (OpenSpec.ofChange evalFuelSpec)) evalFuelCard

/-- THE TIED CARD OF 'waferlaw23.EvalTraps'. -/
def evalTrapsCard : Claim7 := { stood := { row := evalTrapsRow, standIns := [], harness := (true, "c41c957ffba9738eb4eb473c900a3046c574f00f26c354db93da43ac71e47bbd"), looks := true }, kinds := [], alts := [], laidByText := true, laidKinds := [.data, .data, .data], laidTests := true, laidLooks := .later }
def EvalTrapsCardSaid : Prop := Claim7.holds Tryz.pinned (.plain (OpenSpec.ofChange evalTrapsSpec)) evalTrapsCard

/-- THE TIED CARD OF 'waferlaw23.EvalReads'. -/
def evalReadsCard : Claim7 := { stood := { row := evalReadsRow, standIns := [], harness := (true, "c41c957ffba9738eb4eb473c900a3046c574f00f26c354db93da43ac71e47bbd"), looks := true }, kinds := [], alts := [], laidByText := true, laidKinds := [.data, .data, .data], laidTests := true, laidLooks := .later }
def EvalReadsCardSaid : Prop := Claim7.holds Tryz.pinned (.plain (OpenSpec.ofChange evalReadsSpec)) evalReadsCard

/-- THE TIED CARD OF 'waferlaw23.EvalSorts'. -/
def evalSortsCard : Claim7 := { stood := { row := evalSortsRow, standIns := [], harness := (true, "c41c957ffba9738eb4eb473c900a3046c574f00f26c354db93da43ac71e47bbd"), looks := true }, kinds := [], alts := [], laidByText := true, laidKinds := [.data, .data, .data], laidTests := true, laidLooks := .later }
def EvalSortsCardSaid : Prop := Claim7.holds Tryz.pinned (.plain (OpenSpec.ofChange evalSortsSpec)) evalSortsCard

/-- THE TIED CARD OF 'waferlaw23.EvalRefs'. -/
def evalRefsCard : Claim7 := { stood := { row := evalRefsRow, standIns := [], harness := (true, "c41c957ffba9738eb4eb473c900a3046c574f00f26c354db93da43ac71e47bbd"), looks := true }, kinds := [], alts := [], laidByText := true, laidKinds := [.data, .data, .data], laidTests := true, laidLooks := .later }
def EvalRefsCardSaid : Prop := Claim7.holds Tryz.pinned (.plain (OpenSpec.ofChange evalRefsSpec)) evalRefsCard

/-- THE TIED CARD OF 'waferlaw23.EvalLoops'. -/
def evalLoopsCard : Claim7 := { stood := { row := evalLoopsRow, standIns := [], harness := (true, "c41c957ffba9738eb4eb473c900a3046c574f00f26c354db93da43ac71e47bbd"), looks := true }, kinds := [], alts := [], laidByText := true, laidKinds := [.data, .data, .data], laidTests := true, laidLooks := .later }
def EvalLoopsCardSaid : Prop := Claim7.holds Tryz.pinned (.plain (OpenSpec.ofChange evalLoopsSpec)) evalLoopsCard

/-- THE TIED CARD OF 'waferlaw23.EvalCopies'. -/
def evalCopiesCard : Claim7 := { stood := { row := evalCopiesRow, standIns := [], harness := (true, "c41c957ffba9738eb4eb473c900a3046c574f00f26c354db93da43ac71e47bbd"), looks := true }, kinds := [], alts := [], laidByText := true, laidKinds := [.data, .data, .data], laidTests := true, laidLooks := .later }
def EvalCopiesCardSaid : Prop := Claim7.holds Tryz.pinned (.plain (OpenSpec.ofChange evalCopiesSpec)) evalCopiesCard

/-- THE TIED CARD OF 'waferlaw23.EvalStrings'. -/
def evalStringsCard : Claim7 := { stood := { row := evalStringsRow, standIns := [], harness := (true, "c41c957ffba9738eb4eb473c900a3046c574f00f26c354db93da43ac71e47bbd"), looks := true }, kinds := [], alts := [], laidByText := true, laidKinds := [.data, .data, .data], laidTests := true, laidLooks := .later }
def EvalStringsCardSaid : Prop := Claim7.holds Tryz.pinned (.plain (OpenSpec.ofChange evalStringsSpec)) evalStringsCard

/-- THE TIED CARD OF 'waferlaw23.EvalTypes'. -/
def evalTypesCard : Claim7 := { stood := { row := evalTypesRow, standIns := [], harness := (true, "c41c957ffba9738eb4eb473c900a3046c574f00f26c354db93da43ac71e47bbd"), looks := true }, kinds := [], alts := [], laidByText := true, laidKinds := [.data, .data, .data], laidTests := true, laidLooks := .later }
def EvalTypesCardSaid : Prop := Claim7.holds Tryz.pinned (.plain (OpenSpec.ofChange evalTypesSpec)) evalTypesCard

/-- THE SECOND FORM's CARD OF 'waferlaw23.EvalRuns'. -/
def evalRunsUptoCard : Claim7 := { stood := { row := evalRunsUptoRow, standIns := [], harness := (true, "c41c957ffba9738eb4eb473c900a3046c574f00f26c354db93da43ac71e47bbd"), looks := true }, kinds := [], alts := [], laidByText := true, laidKinds := [.data, .data, .data], laidTests := true, laidLooks := .later }
def EvalRunsUptoCardSaid : Prop := Claim7.holds Tryz.pinned (.plain (OpenSpec.upto evalRunsSpec)) evalRunsUptoCard

/-- THE SECOND FORM's CARD OF 'waferlaw23.EvalFuel'. -/
def evalFuelUptoCard : Claim7 := { stood := { row := evalFuelUptoRow, standIns := [], harness := (true, "c41c957ffba9738eb4eb473c900a3046c574f00f26c354db93da43ac71e47bbd"), looks := true }, kinds := [], alts := [], laidByText := true, laidKinds := [.data, .data, .data], laidTests := true, laidLooks := .later }
def EvalFuelUptoCardSaid : Prop := Claim7.holds Tryz.pinned (.plain (OpenSpec.upto evalFuelSpec)) evalFuelUptoCard

/-- THE SECOND FORM's CARD OF 'waferlaw23.EvalTraps'. -/
def evalTrapsUptoCard : Claim7 := { stood := { row := evalTrapsUptoRow, standIns := [], harness := (true, "c41c957ffba9738eb4eb473c900a3046c574f00f26c354db93da43ac71e47bbd"), looks := true }, kinds := [], alts := [], laidByText := true, laidKinds := [.data, .data, .data], laidTests := true, laidLooks := .later }
def EvalTrapsUptoCardSaid : Prop := Claim7.holds Tryz.pinned (.plain (OpenSpec.upto evalTrapsSpec)) evalTrapsUptoCard

/-- THE SECOND FORM's CARD OF 'waferlaw23.EvalReads'. -/
def evalReadsUptoCard : Claim7 := { stood := { row := evalReadsUptoRow, standIns := [], harness := (true, "c41c957ffba9738eb4eb473c900a3046c574f00f26c354db93da43ac71e47bbd"), looks := true }, kinds := [], alts := [], laidByText := true, laidKinds := [.data, .data, .data], laidTests := true, laidLooks := .later }
def EvalReadsUptoCardSaid : Prop := Claim7.holds Tryz.pinned (.plain (OpenSpec.upto evalReadsSpec)) evalReadsUptoCard

/-- THE SECOND FORM's CARD OF 'waferlaw23.EvalSorts'. -/
def evalSortsUptoCard : Claim7 := { stood := { row := evalSortsUptoRow, standIns := [], harness := (true, "c41c957ffba9738eb4eb473c900a3046c574f00f26c354db93da43ac71e47bbd"), looks := true }, kinds := [], alts := [], laidByText := true, laidKinds := [.data, .data, .data], laidTests := true, laidLooks := .later }
def EvalSortsUptoCardSaid : Prop := Claim7.holds Tryz.pinned (.plain (OpenSpec.upto evalSortsSpec)) evalSortsUptoCard

/-- THE SECOND FORM's CARD OF 'waferlaw23.EvalRefs'. -/
def evalRefsUptoCard : Claim7 := { stood := { row := evalRefsUptoRow, standIns := [], harness := (true, "c41c957ffba9738eb4eb473c900a3046c574f00f26c354db93da43ac71e47bbd"), looks := true }, kinds := [], alts := [], laidByText := true, laidKinds := [.data, .data, .data], laidTests := true, laidLooks := .later }
def EvalRefsUptoCardSaid : Prop := Claim7.holds Tryz.pinned (.plain (OpenSpec.upto evalRefsSpec)) evalRefsUptoCard

/-- THE SECOND FORM's CARD OF 'waferlaw23.EvalLoops'. -/
def evalLoopsUptoCard : Claim7 := { stood := { row := evalLoopsUptoRow, standIns := [], harness := (true, "c41c957ffba9738eb4eb473c900a3046c574f00f26c354db93da43ac71e47bbd"), looks := true }, kinds := [], alts := [], laidByText := true, laidKinds := [.data, .data, .data], laidTests := true, laidLooks := .later }
def EvalLoopsUptoCardSaid : Prop := Claim7.holds Tryz.pinned (.plain (OpenSpec.upto evalLoopsSpec)) evalLoopsUptoCard

/-- THE SECOND FORM's CARD OF 'waferlaw23.EvalCopies'. -/
def evalCopiesUptoCard : Claim7 := { stood := { row := evalCopiesUptoRow, standIns := [], harness := (true, "c41c957ffba9738eb4eb473c900a3046c574f00f26c354db93da43ac71e47bbd"), looks := true }, kinds := [], alts := [], laidByText := true, laidKinds := [.data, .data, .data], laidTests := true, laidLooks := .later }
def EvalCopiesUptoCardSaid : Prop := Claim7.holds Tryz.pinned (.plain (OpenSpec.upto evalCopiesSpec)) evalCopiesUptoCard

/-- THE SECOND FORM's CARD OF 'waferlaw23.EvalStrings'. -/
def evalStringsUptoCard : Claim7 := { stood := { row := evalStringsUptoRow, standIns := [], harness := (true, "c41c957ffba9738eb4eb473c900a3046c574f00f26c354db93da43ac71e47bbd"), looks := true }, kinds := [], alts := [], laidByText := true, laidKinds := [.data, .data, .data], laidTests := true, laidLooks := .later }
def EvalStringsUptoCardSaid : Prop := Claim7.holds Tryz.pinned (.plain (OpenSpec.upto evalStringsSpec)) evalStringsUptoCard

/-- THE SECOND FORM's CARD OF 'waferlaw23.EvalTypes'. -/
def evalTypesUptoCard : Claim7 := { stood := { row := evalTypesUptoRow, standIns := [], harness := (true, "c41c957ffba9738eb4eb473c900a3046c574f00f26c354db93da43ac71e47bbd"), looks := true }, kinds := [], alts := [], laidByText := true, laidKinds := [.data, .data, .data], laidTests := true, laidLooks := .later }
def EvalTypesUptoCardSaid : Prop := Claim7.holds Tryz.pinned (.plain (OpenSpec.upto evalTypesSpec)) evalTypesUptoCard
end Rows
end Go.Proofs.YthbcdilmfgfndaaGreatDoor
