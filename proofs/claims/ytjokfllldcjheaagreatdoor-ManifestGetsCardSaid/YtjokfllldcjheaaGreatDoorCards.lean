/-
  DERIVED. GIVEN WITH THE SEED: THE CARDS: each row of YtjokfllldcjheaaGreatDoorRows.lean that lists a variable, with what it lists TIED to the program's text (the seventh form; the later family's looks); each row that meets fmt, with fmt's text TOLD by the authors' own Lean function (tested against real Go, not proved from fmt's source: count such statements apart). THE CARD IS WHAT COUNTS. Prove the row's statement (the work); the ties are given (YtjokfllldcjheaaGreatDoorTie.lean); close each card by the builder's one call (the guide's Derived/Test/ToyasCard.lean, 'card_holds'). Laid BY PROGRAM, IN A SANDBOX (cutbox-door.mjs). By AI agents, Wed Nov 11 2026. No macro, syntax, notation, axiom, sorry.
-/
import Derived.Test.YtjokfllldcjheaaGreatDoorRows
import GoSem.ClaimSeven
namespace Go.Proofs.YtjokfllldcjheaaGreatDoor
namespace Rows

/-- THE TIED CARD OF 'ladinglaw07.ShardSplits'. -/
def shardSplitsCard : Claim7 := { stood := { row := shardSplitsRow, standIns := [], harness := (true, "e4f89ebec8eaf2d89005cdbeea52d34bee9e12a9cd59ad9eebecdf7457a4592a"), looks := true }, kinds := [], alts := [], laidByText := true, laidKinds := [.handle], laidTests := true, laidLooks := .later }
def ShardSplitsCardSaid : Prop := Claim7.holds Tryz.pinned (.plain (OpenSpec.ofChange shardSplitsSpec)) shardSplitsCard

/-- THE TIED CARD OF 'ladinglaw07.ShardPuts'. -/
def shardPutsCard : Claim7 := { stood := { row := shardPutsRow, standIns := [], harness := (true, "e4f89ebec8eaf2d89005cdbeea52d34bee9e12a9cd59ad9eebecdf7457a4592a"), looks := true }, kinds := [], alts := [], laidByText := true, laidKinds := [.handle], laidTests := true, laidLooks := .later }
def ShardPutsCardSaid : Prop := Claim7.holds Tryz.pinned (.plain (OpenSpec.ofChange shardPutsSpec)) shardPutsCard

/-- THE TIED CARD OF 'ladinglaw07.ShardGets'. -/
def shardGetsCard : Claim7 := { stood := { row := shardGetsRow, standIns := [], harness := (true, "e4f89ebec8eaf2d89005cdbeea52d34bee9e12a9cd59ad9eebecdf7457a4592a"), looks := true }, kinds := [], alts := [], laidByText := true, laidKinds := [.handle], laidTests := true, laidLooks := .later }
def ShardGetsCardSaid : Prop := Claim7.holds Tryz.pinned (.plain (OpenSpec.ofChange shardGetsSpec)) shardGetsCard

/-- THE TIED CARD OF 'ladinglaw10.ManifestVersions'. -/
def manifestVersionsCard : Claim7 := { stood := { row := manifestVersionsRow, standIns := [], harness := (true, "e4f89ebec8eaf2d89005cdbeea52d34bee9e12a9cd59ad9eebecdf7457a4592a"), looks := true }, kinds := [], alts := [], laidByText := true, laidKinds := [.handle], laidTests := true, laidLooks := .later }
def ManifestVersionsCardSaid : Prop := Claim7.holds Tryz.pinned (.plain (OpenSpec.ofChange manifestVersionsSpec)) manifestVersionsCard

/-- THE TIED CARD OF 'ladinglaw10.ManifestMakes'. -/
def manifestMakesCard : Claim7 := { stood := { row := manifestMakesRow, standIns := [], harness := (true, "e4f89ebec8eaf2d89005cdbeea52d34bee9e12a9cd59ad9eebecdf7457a4592a"), looks := true }, kinds := [], alts := [], laidByText := true, laidKinds := [.handle], laidTests := true, laidLooks := .later }
def ManifestMakesCardSaid : Prop := Claim7.holds Tryz.pinned (.plain (OpenSpec.ofChange manifestMakesSpec)) manifestMakesCard

/-- THE TIED CARD OF 'ladinglaw10.ManifestGets'. -/
def manifestGetsCard : Claim7 := { stood := { row := manifestGetsRow, standIns := [], harness := (true, "e4f89ebec8eaf2d89005cdbeea52d34bee9e12a9cd59ad9eebecdf7457a4592a"), looks := true }, kinds := [], alts := [], laidByText := true, laidKinds := [.handle], laidTests := true, laidLooks := .later }
def ManifestGetsCardSaid : Prop := Claim7.holds Tryz.pinned (.plain (OpenSpec.ofChange manifestGetsSpec)) manifestGetsCard

/-- THE SECOND FORM's CARD OF 'ladinglaw07.ShardSplits'. -/
def shardSplitsUptoCard : Claim7 := { stood := { row := shardSplitsUptoRow, standIns := [], harness := (true, "e4f89ebec8eaf2d89005cdbeea52d34bee9e12a9cd59ad9eebecdf7457a4592a"), looks := true }, kinds := [], alts := [], laidByText := true, laidKinds := [.handle], laidTests := true, laidLooks := .later }
def ShardSplitsUptoCardSaid : Prop := Claim7.holds Tryz.pinned (.plain (OpenSpec.upto shardSplitsSpec)) shardSplitsUptoCard

/-- THE SECOND FORM's CARD OF 'ladinglaw07.ShardPuts'. -/
def shardPutsUptoCard : Claim7 := { stood := { row := shardPutsUptoRow, standIns := [], harness := (true, "e4f89ebec8eaf2d89005cdbeea52d34bee9e12a9cd59ad9eebecdf7457a4592a"), looks := true }, kinds := [], alts := [], laidByText := true, laidKinds := [.handle], laidTests := true, laidLooks := .later }
def ShardPutsUptoCardSaid : Prop := Claim7.holds Tryz.pinned (.plain (OpenSpec.upto shardPutsSpec)) shardPutsUptoCard

/-- THE SECOND FORM's CARD OF 'ladinglaw07.ShardGets'. -/
def shardGetsUptoCard : Claim7 := { stood := { row := shardGetsUptoRow, standIns := [], harness := (true, "e4f89ebec8eaf2d89005cdbeea52d34bee9e12a9cd59ad9eebecdf7457a4592a"), looks := true }, kinds := [], alts := [], laidByText := true, laidKinds := [.handle], laidTests := true, laidLooks := .later }
def ShardGetsUptoCardSaid : Prop := Claim7.holds Tryz.pinned (.plain (OpenSpec.upto shardGetsSpec)) shardGetsUptoCard

/-- THE SECOND FORM's CARD OF 'ladinglaw10.ManifestVersions'. -/
def manifestVersionsUptoCard : Claim7 := { stood := { row := manifestVersionsUptoRow, standIns := [], harness := (true, "e4f89ebec8eaf2d89005cdbeea52d34bee9e12a9cd59ad9eebecdf7457a4592a"), looks := true }, kinds := [], alts := [], laidByText := true, laidKinds := [.handle], laidTests := true, laidLooks := .later }
def ManifestVersionsUptoCardSaid : Prop := Claim7.holds Tryz.pinned (.plain (OpenSpec.upto manifestVersionsSpec)) manifestVersionsUptoCard

/-- THE SECOND FORM's CARD OF 'ladinglaw10.ManifestMakes'. -/
def manifestMakesUptoCard : Claim7 := { stood := { row := manifestMakesUptoRow, standIns := [], harness := (true, "e4f89ebec8eaf2d89005cdbeea52d34bee9e12a9cd59ad9eebecdf7457a4592a"), looks := true }, kinds := [], alts := [], laidByText := true, laidKinds := [.handle], laidTests := true, laidLooks := .later }
def ManifestMakesUptoCardSaid : Prop := Claim7.holds Tryz.pinned (.plain (OpenSpec.upto manifestMakesSpec)) manifestMakesUptoCard

/-- THE SECOND FORM's CARD OF 'ladinglaw10.ManifestGets'. -/
def manifestGetsUptoCard : Claim7 := { stood := { row := manifestGetsUptoRow, standIns := [], harness := (true, "e4f89ebec8eaf2d89005cdbeea52d34bee9e12a9cd59ad9eebecdf7457a4592a"), looks := true }, kinds := [], alts := [], laidByText := true, laidKinds := [.handle], laidTests := true, laidLooks := .later }
def ManifestGetsUptoCardSaid : Prop := Claim7.holds Tryz.pinned (.plain (OpenSpec.upto manifestGetsSpec)) manifestGetsUptoCard
end Rows
end Go.Proofs.YtjokfllldcjheaaGreatDoor
