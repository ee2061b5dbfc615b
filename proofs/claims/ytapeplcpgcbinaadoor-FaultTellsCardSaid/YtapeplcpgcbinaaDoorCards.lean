/-
  DERIVED. GIVEN WITH THE SEED: THE CARDS: each row of YtapeplcpgcbinaaDoorRows.lean that lists a variable, with what it lists TIED to the program's text (the seventh form; the later family's looks); each row that meets fmt, with fmt's text TOLD by the authors' own Lean function (tested against real Go, not proved from fmt's source: count such statements apart). THE CARD IS WHAT COUNTS. Prove the row's statement (the work); the ties are given (YtapeplcpgcbinaaDoorTie.lean); close each card by the builder's one call (the guide's Derived/Test/ToyasCard.lean, 'card_holds'). Laid BY PROGRAM, IN A SANDBOX (cutbox-door.mjs). By AI agents, Wed Nov 11 2026. No macro, syntax, notation, axiom, sorry.
-/
import Derived.Test.YtapeplcpgcbinaaDoorRows
import GoSem.ClaimSeven
namespace Go.Proofs.YtapeplcpgcbinaaDoor
namespace Rows

/-- THE TIED CARD OF 'cohortlaw01.FaultTells'. -/
def faultTellsCard : Claim7 := { stood := { row := faultTellsRow, standIns := [], harness := (true, "d92594eb5847d907ae5c8f53f30b0acc9f5bd606fd2ad7cd6011ada87bd52317"), looks := true }, kinds := [], alts := [], laidByText := true, laidKinds := [.data, .data, .data, .handle], laidTests := true, laidLooks := .later }
def FaultTellsCardSaid : Prop := Claim7.holds Tryd.pinned (.plain (OpenSpec.ofChange faultTellsSpec)) faultTellsCard

/-- THE TIED CARD OF 'cohortlaw01.FaultMore'. -/
def faultMoreCard : Claim7 := { stood := { row := faultMoreRow, standIns := [], harness := (true, "d92594eb5847d907ae5c8f53f30b0acc9f5bd606fd2ad7cd6011ada87bd52317"), looks := true }, kinds := [], alts := [], laidByText := true, laidKinds := [.handle], laidTests := true, laidLooks := .later }
def FaultMoreCardSaid : Prop := Claim7.holds Tryd.pinned (.plain (OpenSpec.ofChange faultMoreSpec)) faultMoreCard

/-- THE TIED CARD OF 'cohortlaw01.FaultIs'. -/
def faultIsCard : Claim7 := { stood := { row := faultIsRow, standIns := [], harness := (true, "d92594eb5847d907ae5c8f53f30b0acc9f5bd606fd2ad7cd6011ada87bd52317"), looks := true }, kinds := [], alts := [], laidByText := true, laidKinds := [.handle], laidTests := true, laidLooks := .later }
def FaultIsCardSaid : Prop := Claim7.holds Tryd.pinned (.plain (OpenSpec.ofChange faultIsSpec)) faultIsCard

/-- THE TIED CARD OF 'cohortlaw01.FaultNone'. -/
def faultNoneCard : Claim7 := { stood := { row := faultNoneRow, standIns := [], harness := (true, "d92594eb5847d907ae5c8f53f30b0acc9f5bd606fd2ad7cd6011ada87bd52317"), looks := true }, kinds := [], alts := [], laidByText := true, laidKinds := [.handle], laidTests := true, laidLooks := .later }
def FaultNoneCardSaid : Prop := Claim7.holds Tryd.pinned (.plain (OpenSpec.ofChange faultNoneSpec)) faultNoneCard

/-- THE TIED CARD OF 'cohortlaw01.FaultDeep'. -/
def faultDeepCard : Claim7 := { stood := { row := faultDeepRow, standIns := [], harness := (true, "d92594eb5847d907ae5c8f53f30b0acc9f5bd606fd2ad7cd6011ada87bd52317"), looks := true }, kinds := [], alts := [], laidByText := true, laidKinds := [.handle], laidTests := true, laidLooks := .later }
def FaultDeepCardSaid : Prop := Claim7.holds Tryd.pinned (.plain (OpenSpec.ofChange faultDeepSpec)) faultDeepCard

/-- THE SECOND FORM's CARD OF 'cohortlaw01.FaultTells'. -/
def faultTellsUptoCard : Claim7 := { stood := { row := faultTellsUptoRow, standIns := [], harness := (true, "d92594eb5847d907ae5c8f53f30b0acc9f5bd606fd2ad7cd6011ada87bd52317"), looks := true }, kinds := [], alts := [], laidByText := true, laidKinds := [.data, .data, .data, .handle], laidTests := true, laidLooks := .later }
def FaultTellsUptoCardSaid : Prop := Claim7.holds Tryd.pinned (.plain (OpenSpec.upto faultTellsSpec)) faultTellsUptoCard

/-- THE SECOND FORM's CARD OF 'cohortlaw01.FaultMore'. -/
def faultMoreUptoCard : Claim7 := { stood := { row := faultMoreUptoRow, standIns := [], harness := (true, "d92594eb5847d907ae5c8f53f30b0acc9f5bd606fd2ad7cd6011ada87bd52317"), looks := true }, kinds := [], alts := [], laidByText := true, laidKinds := [.handle], laidTests := true, laidLooks := .later }
def FaultMoreUptoCardSaid : Prop := Claim7.holds Tryd.pinned (.plain (OpenSpec.upto faultMoreSpec)) faultMoreUptoCard

/-- THE SECOND FORM's CARD OF 'cohortlaw01.FaultIs'. -/
def faultIsUptoCard : Claim7 := { stood := { row := faultIsUptoRow, standIns := [], harness := (true, "d92594eb5847d907ae5c8f53f30b0acc9f5bd606fd2ad7cd6011ada87bd52317"), looks := true }, kinds := [], alts := [], laidByText := true, laidKinds := [.handle], laidTests := true, laidLooks := .later }
def FaultIsUptoCardSaid : Prop := Claim7.holds Tryd.pinned (.plain (OpenSpec.upto faultIsSpec)) faultIsUptoCard

/-- THE SECOND FORM's CARD OF 'cohortlaw01.FaultNone'. -/
def faultNoneUptoCard : Claim7 := { stood := { row := faultNoneUptoRow, standIns := [], harness := (true, "d92594eb5847d907ae5c8f53f30b0acc9f5bd606fd2ad7cd6011ada87bd52317"), looks := true }, kinds := [], alts := [], laidByText := true, laidKinds := [.handle], laidTests := true, laidLooks := .later }
def FaultNoneUptoCardSaid : Prop := Claim7.holds Tryd.pinned (.plain (OpenSpec.upto faultNoneSpec)) faultNoneUptoCard

/-- THE SECOND FORM's CARD OF 'cohortlaw01.FaultDeep'. -/
def faultDeepUptoCard : Claim7 := { stood := { row := faultDeepUptoRow, standIns := [], harness := (true, "d92594eb5847d907ae5c8f53f30b0acc9f5bd606fd2ad7cd6011ada87bd52317"), looks := true }, kinds := [], alts := [], laidByText := true, laidKinds := [.handle], laidTests := true, laidLooks := .later }
def FaultDeepUptoCardSaid : Prop := Claim7.holds Tryd.pinned (.plain (OpenSpec.upto faultDeepSpec)) faultDeepUptoCard
end Rows
end Go.Proofs.YtapeplcpgcbinaaDoor
