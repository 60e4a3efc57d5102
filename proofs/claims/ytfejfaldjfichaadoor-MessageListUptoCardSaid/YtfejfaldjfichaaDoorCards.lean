/-
  DERIVED. GIVEN WITH THE SEED: THE CARDS: each row of YtfejfaldjfichaaDoorRows.lean that lists a variable, with what it lists TIED to the program's text (the seventh form; the later family's looks); each row that meets fmt, with fmt's text TOLD by the authors' own Lean function (tested against real Go, not proved from fmt's source: count such statements apart). THE CARD IS WHAT COUNTS. Prove the row's statement (the work); the ties are given (YtfejfaldjfichaaDoorTie.lean); close each card by the builder's one call (the guide's Derived/Test/ToyasCard.lean, 'card_holds'). Laid BY PROGRAM, IN A SANDBOX (cutbox-door.mjs). By AI agents, Wed Nov 11 2026. No macro, syntax, notation, axiom, sorry.
-/
import Derived.Test.YtfejfaldjfichaaDoorRows
import GoSem.ClaimSeven
namespace Go.Proofs.YtfejfaldjfichaaDoor
namespace Rows

/-- THE TIED CARD OF 'bywashlaw15.MessageHead'. -/
def messageHeadCard : Claim7 := { stood := { row := messageHeadRow, standIns := [], harness := (true, "57aeca6abc1f9562d9e215402e01933deb8d5795524da88c6172a211858ec12e"), looks := true }, kinds := [], alts := [], laidByText := true, laidKinds := [.data, .data, .data, .data, .sentinel, .sentinel, .pinned], laidTests := true, laidLooks := .later }
def MessageHeadCardSaid : Prop := Claim7.holds Tryd.pinned (.plain (OpenSpec.ofChange messageHeadSpec)) messageHeadCard

/-- THE TIED CARD OF 'bywashlaw15.MessageBodies'. -/
def messageBodiesCard : Claim7 := { stood := { row := messageBodiesRow, standIns := [], harness := (true, "57aeca6abc1f9562d9e215402e01933deb8d5795524da88c6172a211858ec12e"), looks := true }, kinds := [], alts := [], laidByText := true, laidKinds := [.data, .data, .data, .data, .sentinel, .sentinel, .pinned], laidTests := true, laidLooks := .later }
def MessageBodiesCardSaid : Prop := Claim7.holds Tryd.pinned (.plain (OpenSpec.ofChange messageBodiesSpec)) messageBodiesCard

/-- THE TIED CARD OF 'bywashlaw15.MessageList'. -/
def messageListCard : Claim7 := { stood := { row := messageListRow, standIns := [], harness := (true, "57aeca6abc1f9562d9e215402e01933deb8d5795524da88c6172a211858ec12e"), looks := true }, kinds := [], alts := [], laidByText := true, laidKinds := [.data, .data, .data, .data, .sentinel, .sentinel, .pinned], laidTests := true, laidLooks := .later }
def MessageListCardSaid : Prop := Claim7.holds Tryd.pinned (.plain (OpenSpec.ofChange messageListSpec)) messageListCard

/-- THE TIED CARD OF 'bywashlaw15.MessageLengths'. -/
def messageLengthsCard : Claim7 := { stood := { row := messageLengthsRow, standIns := [], harness := (true, "57aeca6abc1f9562d9e215402e01933deb8d5795524da88c6172a211858ec12e"), looks := true }, kinds := [], alts := [], laidByText := true, laidKinds := [.data, .data, .data, .data, .sentinel, .sentinel, .pinned], laidTests := true, laidLooks := .later }
def MessageLengthsCardSaid : Prop := Claim7.holds Tryd.pinned (.plain (OpenSpec.ofChange messageLengthsSpec)) messageLengthsCard

/-- THE TIED CARD OF 'bywashlaw15.MessageBroken'. -/
def messageBrokenCard : Claim7 := { stood := { row := messageBrokenRow, standIns := [], harness := (true, "57aeca6abc1f9562d9e215402e01933deb8d5795524da88c6172a211858ec12e"), looks := true }, kinds := [], alts := [], laidByText := true, laidKinds := [.data, .data, .data, .data, .sentinel, .sentinel, .pinned], laidTests := true, laidLooks := .later }
def MessageBrokenCardSaid : Prop := Claim7.holds Tryd.pinned (.plain (OpenSpec.ofChange messageBrokenSpec)) messageBrokenCard

/-- THE SECOND FORM's CARD OF 'bywashlaw15.MessageHead'. -/
def messageHeadUptoCard : Claim7 := { stood := { row := messageHeadUptoRow, standIns := [], harness := (true, "57aeca6abc1f9562d9e215402e01933deb8d5795524da88c6172a211858ec12e"), looks := true }, kinds := [], alts := [], laidByText := true, laidKinds := [.data, .data, .data, .data, .sentinel, .sentinel, .pinned], laidTests := true, laidLooks := .later }
def MessageHeadUptoCardSaid : Prop := Claim7.holds Tryd.pinned (.plain (OpenSpec.upto messageHeadSpec)) messageHeadUptoCard

/-- THE SECOND FORM's CARD OF 'bywashlaw15.MessageBodies'. -/
def messageBodiesUptoCard : Claim7 := { stood := { row := messageBodiesUptoRow, standIns := [], harness := (true, "57aeca6abc1f9562d9e215402e01933deb8d5795524da88c6172a211858ec12e"), looks := true }, kinds := [], alts := [], laidByText := true, laidKinds := [.data, .data, .data, .data, .sentinel, .sentinel, .pinned], laidTests := true, laidLooks := .later }
def MessageBodiesUptoCardSaid : Prop := Claim7.holds Tryd.pinned (.plain (OpenSpec.upto messageBodiesSpec)) messageBodiesUptoCard

/-- THE SECOND FORM's CARD OF 'bywashlaw15.MessageList'. -/
def messageListUptoCard : Claim7 := { stood := { row := messageListUptoRow, standIns := [], harness := (true, "57aeca6abc1f9562d9e215402e01933deb8d5795524da88c6172a211858ec12e"), looks := true }, kinds := [], alts := [], laidByText := true, laidKinds := [.data, .data, .data, .data, .sentinel, .sentinel, .pinned], laidTests := true, laidLooks := .later }
def MessageListUptoCardSaid : Prop := Claim7.holds Tryd.pinned (.plain (OpenSpec.upto messageListSpec)) messageListUptoCard

/-- THE SECOND FORM's CARD OF 'bywashlaw15.MessageLengths'. -/
def messageLengthsUptoCard : Claim7 := { stood := { row := messageLengthsUptoRow, standIns := [], harness := (true, "57aeca6abc1f9562d9e215402e01933deb8d5795524da88c6172a211858ec12e"), looks := true }, kinds := [], alts := [], laidByText := true, laidKinds := [.data, .data, .data, .data, .sentinel, .sentinel, .pinned], laidTests := true, laidLooks := .later }
def MessageLengthsUptoCardSaid : Prop := Claim7.holds Tryd.pinned (.plain (OpenSpec.upto messageLengthsSpec)) messageLengthsUptoCard

/-- THE SECOND FORM's CARD OF 'bywashlaw15.MessageBroken'. -/
def messageBrokenUptoCard : Claim7 := { stood := { row := messageBrokenUptoRow, standIns := [], harness := (true, "57aeca6abc1f9562d9e215402e01933deb8d5795524da88c6172a211858ec12e"), looks := true }, kinds := [], alts := [], laidByText := true, laidKinds := [.data, .data, .data, .data, .sentinel, .sentinel, .pinned], laidTests := true, laidLooks := .later }
def MessageBrokenUptoCardSaid : Prop := Claim7.holds Tryd.pinned (.plain (OpenSpec.upto messageBrokenSpec)) messageBrokenUptoCard
end Rows
end Go.Proofs.YtfejfaldjfichaaDoor
