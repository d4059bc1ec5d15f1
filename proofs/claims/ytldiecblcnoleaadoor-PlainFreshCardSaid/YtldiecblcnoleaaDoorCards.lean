/-
  DERIVED. GIVEN WITH THE SEED: THE CARDS: each row of YtldiecblcnoleaaDoorRows.lean that lists a variable, with what it lists TIED to the program's text (the seventh form; the later family's looks); each row that meets fmt, with fmt's text TOLD by the authors' own Lean function (tested against real Go, not proved from fmt's source: count such statements apart). THE CARD IS WHAT COUNTS. Prove the row's statement (the work); the ties are given (YtldiecblcnoleaaDoorTie.lean); close each card by the builder's one call (the guide's Derived/Test/ToyasCard.lean, 'card_holds'). Laid BY PROGRAM, IN A SANDBOX (cutbox-door.mjs). By AI agents, Wed Nov 11 2026. No macro, syntax, notation, axiom, sorry.
-/
import Derived.Test.YtldiecblcnoleaaDoorRows
import GoSem.ClaimSeven
namespace Go.Proofs.YtldiecblcnoleaaDoor
namespace Rows

/-- THE TIED CARD OF 'massiflaw01.ShaOf'. -/
def shaOfCard : Claim7 := { stood := { row := shaOfRow, standIns := [], harness := (true, "6acd3695e3b55487a51d8c2f7bdd6bbb9edcaebc5dc88d84b95ac64f0c91a933"), looks := false }, kinds := [], alts := [], laidByText := true, laidKinds := [.data, .data], laidTests := true, laidLooks := .later }
def ShaOfCardSaid : Prop := Claim7.holds Tryd.pinned (.plain (OpenSpec.ofChange shaOfSpec)) shaOfCard

/-- THE TIED CARD OF 'massiflaw01.ShaLengths'. -/
def shaLengthsCard : Claim7 := { stood := { row := shaLengthsRow, standIns := [], harness := (true, "6acd3695e3b55487a51d8c2f7bdd6bbb9edcaebc5dc88d84b95ac64f0c91a933"), looks := false }, kinds := [], alts := [], laidByText := true, laidKinds := [.data, .data], laidTests := true, laidLooks := .later }
def ShaLengthsCardSaid : Prop := Claim7.holds Tryd.pinned (.plain (OpenSpec.ofChange shaLengthsSpec)) shaLengthsCard

/-- THE TIED CARD OF 'massiflaw07.HashBegins'. -/
def hashBeginsCard : Claim7 := { stood := { row := hashBeginsRow, standIns := [], harness := (true, "6acd3695e3b55487a51d8c2f7bdd6bbb9edcaebc5dc88d84b95ac64f0c91a933"), looks := false }, kinds := [], alts := [], laidByText := true, laidKinds := [.data, .data], laidTests := true, laidLooks := .later }
def HashBeginsCardSaid : Prop := Claim7.holds Tryd.pinned (.plain (OpenSpec.ofChange hashBeginsSpec)) hashBeginsCard

/-- THE TIED CARD OF 'massiflaw07.HashAsks'. -/
def hashAsksCard : Claim7 := { stood := { row := hashAsksRow, standIns := [], harness := (true, "6acd3695e3b55487a51d8c2f7bdd6bbb9edcaebc5dc88d84b95ac64f0c91a933"), looks := false }, kinds := [], alts := [], laidByText := true, laidKinds := [.data, .data], laidTests := true, laidLooks := .later }
def HashAsksCardSaid : Prop := Claim7.holds Tryd.pinned (.plain (OpenSpec.ofChange hashAsksSpec)) hashAsksCard

/-- THE TIED CARD OF 'massiflaw08.PlainFresh'. -/
def plainFreshCard : Claim7 := { stood := { row := plainFreshRow, standIns := [], harness := (true, "6acd3695e3b55487a51d8c2f7bdd6bbb9edcaebc5dc88d84b95ac64f0c91a933"), looks := false }, kinds := [], alts := [], laidByText := true, laidKinds := [.data, .data], laidTests := true, laidLooks := .later }
def PlainFreshCardSaid : Prop := Claim7.holds Tryd.pinned (.plain (OpenSpec.ofChange plainFreshSpec)) plainFreshCard

/-- THE TIED CARD OF 'massiflaw08.PlainAsks'. -/
def plainAsksCard : Claim7 := { stood := { row := plainAsksRow, standIns := [], harness := (true, "6acd3695e3b55487a51d8c2f7bdd6bbb9edcaebc5dc88d84b95ac64f0c91a933"), looks := false }, kinds := [], alts := [], laidByText := true, laidKinds := [.data, .data], laidTests := true, laidLooks := .later }
def PlainAsksCardSaid : Prop := Claim7.holds Tryd.pinned (.plain (OpenSpec.ofChange plainAsksSpec)) plainAsksCard

/-- THE TIED CARD OF 'massiflaw09.PeaksMade'. -/
def peaksMadeCard : Claim7 := { stood := { row := peaksMadeRow, standIns := [], harness := (true, "6acd3695e3b55487a51d8c2f7bdd6bbb9edcaebc5dc88d84b95ac64f0c91a933"), looks := false }, kinds := [], alts := [], laidByText := true, laidKinds := [.data, .data], laidTests := true, laidLooks := .later }
def PeaksMadeCardSaid : Prop := Claim7.holds Tryd.pinned (.plain (OpenSpec.ofChange peaksMadeSpec)) peaksMadeCard

/-- THE TIED CARD OF 'massiflaw09.PeaksPlays'. -/
def peaksPlaysCard : Claim7 := { stood := { row := peaksPlaysRow, standIns := [], harness := (true, "6acd3695e3b55487a51d8c2f7bdd6bbb9edcaebc5dc88d84b95ac64f0c91a933"), looks := false }, kinds := [], alts := [], laidByText := true, laidKinds := [.data, .data], laidTests := true, laidLooks := .later }
def PeaksPlaysCardSaid : Prop := Claim7.holds Tryd.pinned (.plain (OpenSpec.ofChange peaksPlaysSpec)) peaksPlaysCard

/-- THE SECOND FORM's CARD OF 'massiflaw01.ShaOf'. -/
def shaOfUptoCard : Claim7 := { stood := { row := shaOfUptoRow, standIns := [], harness := (true, "6acd3695e3b55487a51d8c2f7bdd6bbb9edcaebc5dc88d84b95ac64f0c91a933"), looks := false }, kinds := [], alts := [], laidByText := true, laidKinds := [.data, .data], laidTests := true, laidLooks := .later }
def ShaOfUptoCardSaid : Prop := Claim7.holds Tryd.pinned (.plain (OpenSpec.upto shaOfSpec)) shaOfUptoCard

/-- THE SECOND FORM's CARD OF 'massiflaw01.ShaLengths'. -/
def shaLengthsUptoCard : Claim7 := { stood := { row := shaLengthsUptoRow, standIns := [], harness := (true, "6acd3695e3b55487a51d8c2f7bdd6bbb9edcaebc5dc88d84b95ac64f0c91a933"), looks := false }, kinds := [], alts := [], laidByText := true, laidKinds := [.data, .data], laidTests := true, laidLooks := .later }
def ShaLengthsUptoCardSaid : Prop := Claim7.holds Tryd.pinned (.plain (OpenSpec.upto shaLengthsSpec)) shaLengthsUptoCard

/-- THE SECOND FORM's CARD OF 'massiflaw07.HashBegins'. -/
def hashBeginsUptoCard : Claim7 := { stood := { row := hashBeginsUptoRow, standIns := [], harness := (true, "6acd3695e3b55487a51d8c2f7bdd6bbb9edcaebc5dc88d84b95ac64f0c91a933"), looks := false }, kinds := [], alts := [], laidByText := true, laidKinds := [.data, .data], laidTests := true, laidLooks := .later }
def HashBeginsUptoCardSaid : Prop := Claim7.holds Tryd.pinned (.plain (OpenSpec.upto hashBeginsSpec)) hashBeginsUptoCard

/-- THE SECOND FORM's CARD OF 'massiflaw07.HashAsks'. -/
def hashAsksUptoCard : Claim7 := { stood := { row := hashAsksUptoRow, standIns := [], harness := (true, "6acd3695e3b55487a51d8c2f7bdd6bbb9edcaebc5dc88d84b95ac64f0c91a933"), looks := false }, kinds := [], alts := [], laidByText := true, laidKinds := [.data, .data], laidTests := true, laidLooks := .later }
def HashAsksUptoCardSaid : Prop := Claim7.holds Tryd.pinned (.plain (OpenSpec.upto hashAsksSpec)) hashAsksUptoCard

/-- THE SECOND FORM's CARD OF 'massiflaw08.PlainFresh'. -/
def plainFreshUptoCard : Claim7 := { stood := { row := plainFreshUptoRow, standIns := [], harness := (true, "6acd3695e3b55487a51d8c2f7bdd6bbb9edcaebc5dc88d84b95ac64f0c91a933"), looks := false }, kinds := [], alts := [], laidByText := true, laidKinds := [.data, .data], laidTests := true, laidLooks := .later }
def PlainFreshUptoCardSaid : Prop := Claim7.holds Tryd.pinned (.plain (OpenSpec.upto plainFreshSpec)) plainFreshUptoCard

/-- THE SECOND FORM's CARD OF 'massiflaw08.PlainAsks'. -/
def plainAsksUptoCard : Claim7 := { stood := { row := plainAsksUptoRow, standIns := [], harness := (true, "6acd3695e3b55487a51d8c2f7bdd6bbb9edcaebc5dc88d84b95ac64f0c91a933"), looks := false }, kinds := [], alts := [], laidByText := true, laidKinds := [.data, .data], laidTests := true, laidLooks := .later }
def PlainAsksUptoCardSaid : Prop := Claim7.holds Tryd.pinned (.plain (OpenSpec.upto plainAsksSpec)) plainAsksUptoCard

/-- THE SECOND FORM's CARD OF 'massiflaw09.PeaksMade'. -/
def peaksMadeUptoCard : Claim7 := { stood := { row := peaksMadeUptoRow, standIns := [], harness := (true, "6acd3695e3b55487a51d8c2f7bdd6bbb9edcaebc5dc88d84b95ac64f0c91a933"), looks := false }, kinds := [], alts := [], laidByText := true, laidKinds := [.data, .data], laidTests := true, laidLooks := .later }
def PeaksMadeUptoCardSaid : Prop := Claim7.holds Tryd.pinned (.plain (OpenSpec.upto peaksMadeSpec)) peaksMadeUptoCard

/-- THE SECOND FORM's CARD OF 'massiflaw09.PeaksPlays'. -/
def peaksPlaysUptoCard : Claim7 := { stood := { row := peaksPlaysUptoRow, standIns := [], harness := (true, "6acd3695e3b55487a51d8c2f7bdd6bbb9edcaebc5dc88d84b95ac64f0c91a933"), looks := false }, kinds := [], alts := [], laidByText := true, laidKinds := [.data, .data], laidTests := true, laidLooks := .later }
def PeaksPlaysUptoCardSaid : Prop := Claim7.holds Tryd.pinned (.plain (OpenSpec.upto peaksPlaysSpec)) peaksPlaysUptoCard
end Rows
end Go.Proofs.YtldiecblcnoleaaDoor
