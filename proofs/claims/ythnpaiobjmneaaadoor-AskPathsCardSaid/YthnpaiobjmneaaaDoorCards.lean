/-
  DERIVED. GIVEN WITH THE SEED: THE CARDS: each row of YthnpaiobjmneaaaDoorRows.lean that lists a variable, with what it lists TIED to the program's text (the seventh form; the later family's looks); each row that meets fmt, with fmt's text TOLD by the authors' own Lean function (tested against real Go, not proved from fmt's source: count such statements apart). THE CARD IS WHAT COUNTS. Prove the row's statement (the work); the ties are given (YthnpaiobjmneaaaDoorTie.lean); close each card by the builder's one call (the guide's Derived/Test/ToyasCard.lean, 'card_holds'). Laid BY PROGRAM, IN A SANDBOX (cutbox-door.mjs). By AI agents, Wed Nov 11 2026. No macro, syntax, notation, axiom, sorry.
-/
import Derived.Test.YthnpaiobjmneaaaDoorRows
import GoSem.ClaimSeven
namespace Go.Proofs.YthnpaiobjmneaaaDoor
namespace Rows

/-- THE TIED CARD OF 'ladinglaw04.EdgesNorm'. -/
def edgesNormCard : Claim7 := { stood := { row := edgesNormRow, standIns := [], harness := (true, "93741012cc5f772e94f2f1d1f021487cbe0725f472954347c16cb184299fd971"), looks := true }, kinds := [], alts := [], laidByText := true, laidKinds := [.handle], laidTests := true, laidLooks := .later }
def EdgesNormCardSaid : Prop := Claim7.holds Tryd.pinned (.plain (OpenSpec.ofChange edgesNormSpec)) edgesNormCard

/-- THE TIED CARD OF 'ladinglaw11.AskSearches'. -/
def askSearchesCard : Claim7 := { stood := { row := askSearchesRow, standIns := [], harness := (true, "93741012cc5f772e94f2f1d1f021487cbe0725f472954347c16cb184299fd971"), looks := true }, kinds := [], alts := [], laidByText := true, laidKinds := [.handle], laidTests := true, laidLooks := .later }
def AskSearchesCardSaid : Prop := Claim7.holds Tryd.pinned (.plain (OpenSpec.ofChange askSearchesSpec)) askSearchesCard

/-- THE TIED CARD OF 'ladinglaw05.CsrRows'. -/
def csrRowsCard : Claim7 := { stood := { row := csrRowsRow, standIns := [], harness := (true, "93741012cc5f772e94f2f1d1f021487cbe0725f472954347c16cb184299fd971"), looks := true }, kinds := [], alts := [], laidByText := true, laidKinds := [.handle], laidTests := true, laidLooks := .later }
def CsrRowsCardSaid : Prop := Claim7.holds Tryd.pinned (.plain (OpenSpec.ofChange csrRowsSpec)) csrRowsCard

/-- THE TIED CARD OF 'ladinglaw05.CsrTurns'. -/
def csrTurnsCard : Claim7 := { stood := { row := csrTurnsRow, standIns := [], harness := (true, "93741012cc5f772e94f2f1d1f021487cbe0725f472954347c16cb184299fd971"), looks := true }, kinds := [], alts := [], laidByText := true, laidKinds := [.handle], laidTests := true, laidLooks := .later }
def CsrTurnsCardSaid : Prop := Claim7.holds Tryd.pinned (.plain (OpenSpec.ofChange csrTurnsSpec)) csrTurnsCard

/-- THE TIED CARD OF 'ladinglaw11.AskTurned'. -/
def askTurnedCard : Claim7 := { stood := { row := askTurnedRow, standIns := [], harness := (true, "93741012cc5f772e94f2f1d1f021487cbe0725f472954347c16cb184299fd971"), looks := true }, kinds := [], alts := [], laidByText := true, laidKinds := [.handle], laidTests := true, laidLooks := .later }
def AskTurnedCardSaid : Prop := Claim7.holds Tryd.pinned (.plain (OpenSpec.ofChange askTurnedSpec)) askTurnedCard

/-- THE TIED CARD OF 'ladinglaw11.AskPaths'. -/
def askPathsCard : Claim7 := { stood := { row := askPathsRow, standIns := [], harness := (true, "93741012cc5f772e94f2f1d1f021487cbe0725f472954347c16cb184299fd971"), looks := true }, kinds := [], alts := [], laidByText := true, laidKinds := [.handle], laidTests := true, laidLooks := .later }
def AskPathsCardSaid : Prop := Claim7.holds Tryd.pinned (.plain (OpenSpec.ofChange askPathsSpec)) askPathsCard

/-- THE SECOND FORM's CARD OF 'ladinglaw04.EdgesNorm'. -/
def edgesNormUptoCard : Claim7 := { stood := { row := edgesNormUptoRow, standIns := [], harness := (true, "93741012cc5f772e94f2f1d1f021487cbe0725f472954347c16cb184299fd971"), looks := true }, kinds := [], alts := [], laidByText := true, laidKinds := [.handle], laidTests := true, laidLooks := .later }
def EdgesNormUptoCardSaid : Prop := Claim7.holds Tryd.pinned (.plain (OpenSpec.upto edgesNormSpec)) edgesNormUptoCard

/-- THE SECOND FORM's CARD OF 'ladinglaw11.AskSearches'. -/
def askSearchesUptoCard : Claim7 := { stood := { row := askSearchesUptoRow, standIns := [], harness := (true, "93741012cc5f772e94f2f1d1f021487cbe0725f472954347c16cb184299fd971"), looks := true }, kinds := [], alts := [], laidByText := true, laidKinds := [.handle], laidTests := true, laidLooks := .later }
def AskSearchesUptoCardSaid : Prop := Claim7.holds Tryd.pinned (.plain (OpenSpec.upto askSearchesSpec)) askSearchesUptoCard

/-- THE SECOND FORM's CARD OF 'ladinglaw05.CsrRows'. -/
def csrRowsUptoCard : Claim7 := { stood := { row := csrRowsUptoRow, standIns := [], harness := (true, "93741012cc5f772e94f2f1d1f021487cbe0725f472954347c16cb184299fd971"), looks := true }, kinds := [], alts := [], laidByText := true, laidKinds := [.handle], laidTests := true, laidLooks := .later }
def CsrRowsUptoCardSaid : Prop := Claim7.holds Tryd.pinned (.plain (OpenSpec.upto csrRowsSpec)) csrRowsUptoCard

/-- THE SECOND FORM's CARD OF 'ladinglaw05.CsrTurns'. -/
def csrTurnsUptoCard : Claim7 := { stood := { row := csrTurnsUptoRow, standIns := [], harness := (true, "93741012cc5f772e94f2f1d1f021487cbe0725f472954347c16cb184299fd971"), looks := true }, kinds := [], alts := [], laidByText := true, laidKinds := [.handle], laidTests := true, laidLooks := .later }
def CsrTurnsUptoCardSaid : Prop := Claim7.holds Tryd.pinned (.plain (OpenSpec.upto csrTurnsSpec)) csrTurnsUptoCard

/-- THE SECOND FORM's CARD OF 'ladinglaw11.AskTurned'. -/
def askTurnedUptoCard : Claim7 := { stood := { row := askTurnedUptoRow, standIns := [], harness := (true, "93741012cc5f772e94f2f1d1f021487cbe0725f472954347c16cb184299fd971"), looks := true }, kinds := [], alts := [], laidByText := true, laidKinds := [.handle], laidTests := true, laidLooks := .later }
def AskTurnedUptoCardSaid : Prop := Claim7.holds Tryd.pinned (.plain (OpenSpec.upto askTurnedSpec)) askTurnedUptoCard

/-- THE SECOND FORM's CARD OF 'ladinglaw11.AskPaths'. -/
def askPathsUptoCard : Claim7 := { stood := { row := askPathsUptoRow, standIns := [], harness := (true, "93741012cc5f772e94f2f1d1f021487cbe0725f472954347c16cb184299fd971"), looks := true }, kinds := [], alts := [], laidByText := true, laidKinds := [.handle], laidTests := true, laidLooks := .later }
def AskPathsUptoCardSaid : Prop := Claim7.holds Tryd.pinned (.plain (OpenSpec.upto askPathsSpec)) askPathsUptoCard
end Rows
end Go.Proofs.YthnpaiobjmneaaaDoor
