/-
  DERIVED. GIVEN WITH THE SEED: THE CARDS: each row of YtmhjocbnoppbbaaDoorRows.lean that lists a variable, with what it lists TIED to the program's text (the seventh form; the later family's looks); each row that meets fmt, with fmt's text TOLD by the authors' own Lean function (tested against real Go, not proved from fmt's source: count such statements apart). THE CARD IS WHAT COUNTS. Prove the row's statement (the work); the ties are given (YtmhjocbnoppbbaaDoorTie.lean); close each card by the builder's one call (the guide's Derived/Test/ToyasCard.lean, 'card_holds'). Laid BY PROGRAM, IN A SANDBOX (cutbox-door.mjs). By AI agents, Wed Nov 11 2026. No macro, syntax, notation, axiom, sorry.
-/
import Derived.Test.YtmhjocbnoppbbaaDoorRows
import GoSem.ClaimSeven
namespace Go.Proofs.YtmhjocbnoppbbaaDoor
namespace Rows

/-- THE TIED CARD OF 'ladinglaw08.BlockApart'. -/
def blockApartCard : Claim7 := { stood := { row := blockApartRow, standIns := [], harness := (true, "58e88f0d5997b7a5794fe9a4b94213411808b62f1acd63395e6ecb329c8837e8"), looks := true }, kinds := [], alts := [], laidByText := true, laidKinds := [.handle], laidTests := true, laidLooks := .later }
def BlockApartCardSaid : Prop := Claim7.holds Tryd.pinned (.plain (OpenSpec.ofChange blockApartSpec)) blockApartCard

/-- THE TIED CARD OF 'ladinglaw08.BlockLacks'. -/
def blockLacksCard : Claim7 := { stood := { row := blockLacksRow, standIns := [], harness := (true, "58e88f0d5997b7a5794fe9a4b94213411808b62f1acd63395e6ecb329c8837e8"), looks := true }, kinds := [], alts := [], laidByText := true, laidKinds := [.handle], laidTests := true, laidLooks := .later }
def BlockLacksCardSaid : Prop := Claim7.holds Tryd.pinned (.plain (OpenSpec.ofChange blockLacksSpec)) blockLacksCard

/-- THE TIED CARD OF 'ladinglaw08.BlockReads'. -/
def blockReadsCard : Claim7 := { stood := { row := blockReadsRow, standIns := [], harness := (true, "58e88f0d5997b7a5794fe9a4b94213411808b62f1acd63395e6ecb329c8837e8"), looks := true }, kinds := [], alts := [], laidByText := true, laidKinds := [.handle], laidTests := true, laidLooks := .later }
def BlockReadsCardSaid : Prop := Claim7.holds Tryd.pinned (.plain (OpenSpec.ofChange blockReadsSpec)) blockReadsCard

/-- THE TIED CARD OF 'ladinglaw09.MerkleProves'. -/
def merkleProvesCard : Claim7 := { stood := { row := merkleProvesRow, standIns := [], harness := (true, "58e88f0d5997b7a5794fe9a4b94213411808b62f1acd63395e6ecb329c8837e8"), looks := true }, kinds := [], alts := [], laidByText := true, laidKinds := [.handle], laidTests := true, laidLooks := .later }
def MerkleProvesCardSaid : Prop := Claim7.holds Tryd.pinned (.plain (OpenSpec.ofChange merkleProvesSpec)) merkleProvesCard

/-- THE TIED CARD OF 'ladinglaw09.MerkleUps'. -/
def merkleUpsCard : Claim7 := { stood := { row := merkleUpsRow, standIns := [], harness := (true, "58e88f0d5997b7a5794fe9a4b94213411808b62f1acd63395e6ecb329c8837e8"), looks := true }, kinds := [], alts := [], laidByText := true, laidKinds := [.handle], laidTests := true, laidLooks := .later }
def MerkleUpsCardSaid : Prop := Claim7.holds Tryd.pinned (.plain (OpenSpec.ofChange merkleUpsSpec)) merkleUpsCard

/-- THE TIED CARD OF 'ladinglaw09.MerkleTrees'. -/
def merkleTreesCard : Claim7 := { stood := { row := merkleTreesRow, standIns := [], harness := (true, "58e88f0d5997b7a5794fe9a4b94213411808b62f1acd63395e6ecb329c8837e8"), looks := true }, kinds := [], alts := [], laidByText := true, laidKinds := [.handle], laidTests := true, laidLooks := .later }
def MerkleTreesCardSaid : Prop := Claim7.holds Tryd.pinned (.plain (OpenSpec.ofChange merkleTreesSpec)) merkleTreesCard

/-- THE SECOND FORM's CARD OF 'ladinglaw08.BlockApart'. -/
def blockApartUptoCard : Claim7 := { stood := { row := blockApartUptoRow, standIns := [], harness := (true, "58e88f0d5997b7a5794fe9a4b94213411808b62f1acd63395e6ecb329c8837e8"), looks := true }, kinds := [], alts := [], laidByText := true, laidKinds := [.handle], laidTests := true, laidLooks := .later }
def BlockApartUptoCardSaid : Prop := Claim7.holds Tryd.pinned (.plain (OpenSpec.upto blockApartSpec)) blockApartUptoCard

/-- THE SECOND FORM's CARD OF 'ladinglaw08.BlockLacks'. -/
def blockLacksUptoCard : Claim7 := { stood := { row := blockLacksUptoRow, standIns := [], harness := (true, "58e88f0d5997b7a5794fe9a4b94213411808b62f1acd63395e6ecb329c8837e8"), looks := true }, kinds := [], alts := [], laidByText := true, laidKinds := [.handle], laidTests := true, laidLooks := .later }
def BlockLacksUptoCardSaid : Prop := Claim7.holds Tryd.pinned (.plain (OpenSpec.upto blockLacksSpec)) blockLacksUptoCard

/-- THE SECOND FORM's CARD OF 'ladinglaw08.BlockReads'. -/
def blockReadsUptoCard : Claim7 := { stood := { row := blockReadsUptoRow, standIns := [], harness := (true, "58e88f0d5997b7a5794fe9a4b94213411808b62f1acd63395e6ecb329c8837e8"), looks := true }, kinds := [], alts := [], laidByText := true, laidKinds := [.handle], laidTests := true, laidLooks := .later }
def BlockReadsUptoCardSaid : Prop := Claim7.holds Tryd.pinned (.plain (OpenSpec.upto blockReadsSpec)) blockReadsUptoCard

/-- THE SECOND FORM's CARD OF 'ladinglaw09.MerkleProves'. -/
def merkleProvesUptoCard : Claim7 := { stood := { row := merkleProvesUptoRow, standIns := [], harness := (true, "58e88f0d5997b7a5794fe9a4b94213411808b62f1acd63395e6ecb329c8837e8"), looks := true }, kinds := [], alts := [], laidByText := true, laidKinds := [.handle], laidTests := true, laidLooks := .later }
def MerkleProvesUptoCardSaid : Prop := Claim7.holds Tryd.pinned (.plain (OpenSpec.upto merkleProvesSpec)) merkleProvesUptoCard

/-- THE SECOND FORM's CARD OF 'ladinglaw09.MerkleUps'. -/
def merkleUpsUptoCard : Claim7 := { stood := { row := merkleUpsUptoRow, standIns := [], harness := (true, "58e88f0d5997b7a5794fe9a4b94213411808b62f1acd63395e6ecb329c8837e8"), looks := true }, kinds := [], alts := [], laidByText := true, laidKinds := [.handle], laidTests := true, laidLooks := .later }
def MerkleUpsUptoCardSaid : Prop := Claim7.holds Tryd.pinned (.plain (OpenSpec.upto merkleUpsSpec)) merkleUpsUptoCard

/-- THE SECOND FORM's CARD OF 'ladinglaw09.MerkleTrees'. -/
def merkleTreesUptoCard : Claim7 := { stood := { row := merkleTreesUptoRow, standIns := [], harness := (true, "58e88f0d5997b7a5794fe9a4b94213411808b62f1acd63395e6ecb329c8837e8"), looks := true }, kinds := [], alts := [], laidByText := true, laidKinds := [.handle], laidTests := true, laidLooks := .later }
def MerkleTreesUptoCardSaid : Prop := Claim7.holds Tryd.pinned (.plain (OpenSpec.upto merkleTreesSpec)) merkleTreesUptoCard
end Rows
end Go.Proofs.YtmhjocbnoppbbaaDoor
