/-
  DERIVED. GIVEN WITH THE SEED: THE CARDS: each row of YtpahkaffknnjhaaGreatDoorRows.lean that lists a variable, with what it lists TIED to the program's text (the seventh form; the later family's looks); each row that meets fmt, with fmt's text TOLD by the authors' own Lean function (tested against real Go, not proved from fmt's source: count such statements apart). THE CARD IS WHAT COUNTS. Prove the row's statement (the work); the ties are given (YtpahkaffknnjhaaGreatDoorTie.lean); close each card by the builder's one call (the guide's Derived/Test/ToyasCard.lean, 'card_holds'). Laid BY PROGRAM, IN A SANDBOX (cutbox-door.mjs). By AI agents, Wed Nov 11 2026. No macro, syntax, notation, axiom, sorry.
-/
import Derived.Test.YtpahkaffknnjhaaGreatDoorRows
import GoSem.ClaimSeven
namespace Go.Proofs.YtpahkaffknnjhaaGreatDoor
namespace Rows

/-- THE TIED CARD OF 'dowserlaw18.RunMem'. -/
def runMemCard : Claim7 := { stood := { row := runMemRow, standIns := [], harness := (true, "18df88a07248b68eec97c3d2cdff66a09211709ad4b7f4a991b9cb29538e66a9"), looks := false }, kinds := [], alts := [], laidByText := true, laidKinds := [.data, .pinned], laidTests := true, laidLooks := .later }
def RunMemCardSaid : Prop := Claim7.holds Tryz.pinned (.plain (OpenSpec.ofChange runMemSpec)) runMemCard

/-- THE TIED CARD OF 'dowserlaw18.RunFinds'. -/
def runFindsCard : Claim7 := { stood := { row := runFindsRow, standIns := [], harness := (true, "18df88a07248b68eec97c3d2cdff66a09211709ad4b7f4a991b9cb29538e66a9"), looks := false }, kinds := [], alts := [], laidByText := true, laidKinds := [.data, .pinned], laidTests := true, laidLooks := .later }
def RunFindsCardSaid : Prop := Claim7.holds Tryz.pinned (.plain (OpenSpec.ofChange runFindsSpec)) runFindsCard

/-- THE TIED CARD OF 'dowserlaw18.RunKeys'. -/
def runKeysCard : Claim7 := { stood := { row := runKeysRow, standIns := [], harness := (true, "18df88a07248b68eec97c3d2cdff66a09211709ad4b7f4a991b9cb29538e66a9"), looks := false }, kinds := [], alts := [], laidByText := true, laidKinds := [.data, .pinned], laidTests := true, laidLooks := .later }
def RunKeysCardSaid : Prop := Claim7.holds Tryz.pinned (.plain (OpenSpec.ofChange runKeysSpec)) runKeysCard

/-- THE SECOND FORM's CARD OF 'dowserlaw18.RunMem'. -/
def runMemUptoCard : Claim7 := { stood := { row := runMemUptoRow, standIns := [], harness := (true, "18df88a07248b68eec97c3d2cdff66a09211709ad4b7f4a991b9cb29538e66a9"), looks := false }, kinds := [], alts := [], laidByText := true, laidKinds := [.data, .pinned], laidTests := true, laidLooks := .later }
def RunMemUptoCardSaid : Prop := Claim7.holds Tryz.pinned (.plain (OpenSpec.upto runMemSpec)) runMemUptoCard

/-- THE SECOND FORM's CARD OF 'dowserlaw18.RunFinds'. -/
def runFindsUptoCard : Claim7 := { stood := { row := runFindsUptoRow, standIns := [], harness := (true, "18df88a07248b68eec97c3d2cdff66a09211709ad4b7f4a991b9cb29538e66a9"), looks := false }, kinds := [], alts := [], laidByText := true, laidKinds := [.data, .pinned], laidTests := true, laidLooks := .later }
def RunFindsUptoCardSaid : Prop := Claim7.holds Tryz.pinned (.plain (OpenSpec.upto runFindsSpec)) runFindsUptoCard

/-- THE SECOND FORM's CARD OF 'dowserlaw18.RunKeys'. -/
def runKeysUptoCard : Claim7 := { stood := { row := runKeysUptoRow, standIns := [], harness := (true, "18df88a07248b68eec97c3d2cdff66a09211709ad4b7f4a991b9cb29538e66a9"), looks := false }, kinds := [], alts := [], laidByText := true, laidKinds := [.data, .pinned], laidTests := true, laidLooks := .later }
def RunKeysUptoCardSaid : Prop := Claim7.holds Tryz.pinned (.plain (OpenSpec.upto runKeysSpec)) runKeysUptoCard
end Rows
end Go.Proofs.YtpahkaffknnjhaaGreatDoor
