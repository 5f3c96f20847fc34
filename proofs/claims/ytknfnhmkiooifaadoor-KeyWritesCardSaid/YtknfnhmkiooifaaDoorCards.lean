/-
  DERIVED. GIVEN WITH THE SEED: THE CARDS: each row of YtknfnhmkiooifaaDoorRows.lean that lists a variable, with what it lists TIED to the program's text (the seventh form; the later family's looks); each row that meets fmt, with fmt's text TOLD by the authors' own Lean function (tested against real Go, not proved from fmt's source: count such statements apart). THE CARD IS WHAT COUNTS. Prove the row's statement (the work); the ties are given (YtknfnhmkiooifaaDoorTie.lean); close each card by the builder's one call (the guide's Derived/Test/ToyasCard.lean, 'card_holds'). Laid BY PROGRAM, IN A SANDBOX (cutbox-door.mjs). By AI agents, Wed Nov 11 2026. No macro, syntax, notation, axiom, sorry.
-/
import Derived.Test.YtknfnhmkiooifaaDoorRows
import GoSem.ClaimSeven
namespace Go.Proofs.YtknfnhmkiooifaaDoor
namespace Rows

/-- THE TIED CARD OF 'dowserlaw08.KeyOrders'. -/
def keyOrdersCard : Claim7 := { stood := { row := keyOrdersRow, standIns := [], harness := (true, "2e3262d9503b9c93b7b72176700bf47dde7687a0ad2e690be8949e26ce76dd7d"), looks := true }, kinds := [], alts := [], laidByText := true, laidKinds := [.data, .pinned], laidTests := true, laidLooks := .later }
def KeyOrdersCardSaid : Prop := Claim7.holds Tryd.pinned (.plain (OpenSpec.ofChange keyOrdersSpec)) keyOrdersCard

/-- THE TIED CARD OF 'dowserlaw08.KeyIDs'. -/
def keyIDsCard : Claim7 := { stood := { row := keyIDsRow, standIns := [], harness := (true, "2e3262d9503b9c93b7b72176700bf47dde7687a0ad2e690be8949e26ce76dd7d"), looks := true }, kinds := [], alts := [], laidByText := true, laidKinds := [.data, .pinned], laidTests := true, laidLooks := .later }
def KeyIDsCardSaid : Prop := Claim7.holds Tryd.pinned (.plain (OpenSpec.ofChange keyIDsSpec)) keyIDsCard

/-- THE TIED CARD OF 'dowserlaw08.KeyAfter'. -/
def keyAfterCard : Claim7 := { stood := { row := keyAfterRow, standIns := [], harness := (true, "2e3262d9503b9c93b7b72176700bf47dde7687a0ad2e690be8949e26ce76dd7d"), looks := true }, kinds := [], alts := [], laidByText := true, laidKinds := [.data, .pinned], laidTests := true, laidLooks := .later }
def KeyAfterCardSaid : Prop := Claim7.holds Tryd.pinned (.plain (OpenSpec.ofChange keyAfterSpec)) keyAfterCard

/-- THE TIED CARD OF 'dowserlaw08.KeyApart'. -/
def keyApartCard : Claim7 := { stood := { row := keyApartRow, standIns := [], harness := (true, "2e3262d9503b9c93b7b72176700bf47dde7687a0ad2e690be8949e26ce76dd7d"), looks := true }, kinds := [], alts := [], laidByText := true, laidKinds := [.data, .pinned], laidTests := true, laidLooks := .later }
def KeyApartCardSaid : Prop := Claim7.holds Tryd.pinned (.plain (OpenSpec.ofChange keyApartSpec)) keyApartCard

/-- THE TIED CARD OF 'dowserlaw08.KeyReads'. -/
def keyReadsCard : Claim7 := { stood := { row := keyReadsRow, standIns := [], harness := (true, "2e3262d9503b9c93b7b72176700bf47dde7687a0ad2e690be8949e26ce76dd7d"), looks := true }, kinds := [], alts := [], laidByText := true, laidKinds := [.data, .pinned], laidTests := true, laidLooks := .later }
def KeyReadsCardSaid : Prop := Claim7.holds Tryd.pinned (.plain (OpenSpec.ofChange keyReadsSpec)) keyReadsCard

/-- THE TIED CARD OF 'dowserlaw08.KeyWrites'. -/
def keyWritesCard : Claim7 := { stood := { row := keyWritesRow, standIns := [], harness := (true, "2e3262d9503b9c93b7b72176700bf47dde7687a0ad2e690be8949e26ce76dd7d"), looks := true }, kinds := [], alts := [], laidByText := true, laidKinds := [.data, .pinned], laidTests := true, laidLooks := .later }
def KeyWritesCardSaid : Prop := Claim7.holds Tryd.pinned (.plain (OpenSpec.ofChange keyWritesSpec)) keyWritesCard

/-- THE SECOND FORM's CARD OF 'dowserlaw08.KeyOrders'. -/
def keyOrdersUptoCard : Claim7 := { stood := { row := keyOrdersUptoRow, standIns := [], harness := (true, "2e3262d9503b9c93b7b72176700bf47dde7687a0ad2e690be8949e26ce76dd7d"), looks := true }, kinds := [], alts := [], laidByText := true, laidKinds := [.data, .pinned], laidTests := true, laidLooks := .later }
def KeyOrdersUptoCardSaid : Prop := Claim7.holds Tryd.pinned (.plain (OpenSpec.upto keyOrdersSpec)) keyOrdersUptoCard

/-- THE SECOND FORM's CARD OF 'dowserlaw08.KeyIDs'. -/
def keyIDsUptoCard : Claim7 := { stood := { row := keyIDsUptoRow, standIns := [], harness := (true, "2e3262d9503b9c93b7b72176700bf47dde7687a0ad2e690be8949e26ce76dd7d"), looks := true }, kinds := [], alts := [], laidByText := true, laidKinds := [.data, .pinned], laidTests := true, laidLooks := .later }
def KeyIDsUptoCardSaid : Prop := Claim7.holds Tryd.pinned (.plain (OpenSpec.upto keyIDsSpec)) keyIDsUptoCard

/-- THE SECOND FORM's CARD OF 'dowserlaw08.KeyAfter'. -/
def keyAfterUptoCard : Claim7 := { stood := { row := keyAfterUptoRow, standIns := [], harness := (true, "2e3262d9503b9c93b7b72176700bf47dde7687a0ad2e690be8949e26ce76dd7d"), looks := true }, kinds := [], alts := [], laidByText := true, laidKinds := [.data, .pinned], laidTests := true, laidLooks := .later }
def KeyAfterUptoCardSaid : Prop := Claim7.holds Tryd.pinned (.plain (OpenSpec.upto keyAfterSpec)) keyAfterUptoCard

/-- THE SECOND FORM's CARD OF 'dowserlaw08.KeyApart'. -/
def keyApartUptoCard : Claim7 := { stood := { row := keyApartUptoRow, standIns := [], harness := (true, "2e3262d9503b9c93b7b72176700bf47dde7687a0ad2e690be8949e26ce76dd7d"), looks := true }, kinds := [], alts := [], laidByText := true, laidKinds := [.data, .pinned], laidTests := true, laidLooks := .later }
def KeyApartUptoCardSaid : Prop := Claim7.holds Tryd.pinned (.plain (OpenSpec.upto keyApartSpec)) keyApartUptoCard

/-- THE SECOND FORM's CARD OF 'dowserlaw08.KeyReads'. -/
def keyReadsUptoCard : Claim7 := { stood := { row := keyReadsUptoRow, standIns := [], harness := (true, "2e3262d9503b9c93b7b72176700bf47dde7687a0ad2e690be8949e26ce76dd7d"), looks := true }, kinds := [], alts := [], laidByText := true, laidKinds := [.data, .pinned], laidTests := true, laidLooks := .later }
def KeyReadsUptoCardSaid : Prop := Claim7.holds Tryd.pinned (.plain (OpenSpec.upto keyReadsSpec)) keyReadsUptoCard

/-- THE SECOND FORM's CARD OF 'dowserlaw08.KeyWrites'. -/
def keyWritesUptoCard : Claim7 := { stood := { row := keyWritesUptoRow, standIns := [], harness := (true, "2e3262d9503b9c93b7b72176700bf47dde7687a0ad2e690be8949e26ce76dd7d"), looks := true }, kinds := [], alts := [], laidByText := true, laidKinds := [.data, .pinned], laidTests := true, laidLooks := .later }
def KeyWritesUptoCardSaid : Prop := Claim7.holds Tryd.pinned (.plain (OpenSpec.upto keyWritesSpec)) keyWritesUptoCard
end Rows
end Go.Proofs.YtknfnhmkiooifaaDoor
