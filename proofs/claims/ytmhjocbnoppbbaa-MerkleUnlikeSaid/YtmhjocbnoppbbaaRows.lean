/-
  No cell of these rows narrows 'for every input' (looked for: loops, veiled, ifaces, maps, wideKeys, modest, calm, conditions, laid).
  DERIVED. THE GIVEN ROWS OF THIS SEAT. 8 by the template 'for every input the law returns true; each argument reads behind the call as it read before'; 0 by the template 'total and deterministic' (their statements: YtmhjocbnoppbbaaTotals.lean).
  GIVEN WITH THE SEED: the statements are not yours to turn. If you find one false, say at which input.
  Laid BY PROGRAM, IN A SANDBOX (cutbox-rows.mjs): the forced cells as the released guide's own fill.sh prints them over the translation 6f37454a5afd75e0… (all of the seat's roots in one cut). By AI agents, Wed Nov 11 2026. No macro, syntax, notation, axiom, sorry.
-/
import Derived.Test.YtmhjocbnoppbbaaChecked
import GoSem.Claim
import GoSem.ClaimJoined
import GoSem.ClaimMapViews
import Derived.JoinedTies
import Derived.KernelRfl
namespace Go.Proofs.Ytmhjocbnoppbbaa
/- THE CELL 'sum', in the pinned program and in every row, IS THE sha256 OF THE DUMP (.gsa) THAT YtmhjocbnoppbbaaProg.lean LOADS. Nothing in Lean hashes anything: it is a label: what it is worth is what the hold of that sum in a sandbox is worth. -/
noncomputable def Try.pinned : Pinned := { name := "ytmhjocbnoppbbaa", sum := "6f37454a5afd75e033dc81dd324dc0e74404af496a761cd04dbb5c3549391d37", checked := Try.checked }
namespace Rows
def none {H : Type} : Left H := { results := [], args := [] }

/-- 'ladinglaw08.BlockSpans': WHATEVER THE INPUT: true; the input reads as it did. -/
def blockSpansSpec : ChangeSpec := { name := "blockSpans", fn := fun _ => fun
  | [d1, d2, d3] => { results := [.lit (.bool true)], args := [d1, d2, d3] }
  | _ => none }
def blockSpansRow : OpenClaim := { program := "ytmhjocbnoppbbaa", sum := "6f37454a5afd75e033dc81dd324dc0e74404af496a761cd04dbb5c3549391d37", func := "lading/ladinglaw08.BlockSpans", spec := "blockSpans", plainKeys := false, apart := false }
def BlockSpansSaid : Prop := blockSpansRow.holds Try.pinned (OpenSpec.ofChange blockSpansSpec)

/-- ITS FALSE NEIGHBOUR: 'it returns false'. Refute it at one input. -/
def blockSpansWrong : ChangeSpec := { name := "blockSpans", fn := fun _ => fun
  | [d1, d2, d3] => { results := [.lit (.bool false)], args := [d1, d2, d3] }
  | _ => none }
def BlockSpansWrongFalsely : Prop := blockSpansRow.holds Try.pinned (OpenSpec.ofChange blockSpansWrong)

/-- 'ladinglaw08.BlockCuts': WHATEVER THE INPUT: true; the input reads as it did. -/
def blockCutsSpec : ChangeSpec := { name := "blockCuts", fn := fun _ => fun
  | [d] => { results := [.lit (.bool true)], args := [d] }
  | _ => none }
def blockCutsRow : OpenClaim := { program := "ytmhjocbnoppbbaa", sum := "6f37454a5afd75e033dc81dd324dc0e74404af496a761cd04dbb5c3549391d37", func := "lading/ladinglaw08.BlockCuts", spec := "blockCuts", inPlace := ["internal/abi.NoEscape", "internal/bytealg.MakeNoZero"], plainKeys := false, apart := false }
def BlockCutsSaid : Prop := blockCutsRow.holds Try.pinned (OpenSpec.ofChange blockCutsSpec)

/-- ITS FALSE NEIGHBOUR: 'it returns false'. Refute it at one input. -/
def blockCutsWrong : ChangeSpec := { name := "blockCuts", fn := fun _ => fun
  | [d] => { results := [.lit (.bool false)], args := [d] }
  | _ => none }
def BlockCutsWrongFalsely : Prop := blockCutsRow.holds Try.pinned (OpenSpec.ofChange blockCutsWrong)

/-- 'ladinglaw02.ShaSums': WHATEVER THE INPUT: true; the input reads as it did. -/
def shaSumsSpec : ChangeSpec := { name := "shaSums", fn := fun _ => fun
  | [d] => { results := [.lit (.bool true)], args := [d] }
  | _ => none }
def shaSumsRow : OpenClaim := { program := "ytmhjocbnoppbbaa", sum := "6f37454a5afd75e033dc81dd324dc0e74404af496a761cd04dbb5c3549391d37", func := "lading/ladinglaw02.ShaSums", spec := "shaSums", plainKeys := false, apart := false }
def ShaSumsSaid : Prop := shaSumsRow.holds Try.pinned (OpenSpec.ofChange shaSumsSpec)

/-- ITS FALSE NEIGHBOUR: 'it returns false'. Refute it at one input. -/
def shaSumsWrong : ChangeSpec := { name := "shaSums", fn := fun _ => fun
  | [d] => { results := [.lit (.bool false)], args := [d] }
  | _ => none }
def ShaSumsWrongFalsely : Prop := shaSumsRow.holds Try.pinned (OpenSpec.ofChange shaSumsWrong)

/-- 'ladinglaw02.ShaGoes': WHATEVER THE INPUT: true; the input reads as it did. -/
def shaGoesSpec : ChangeSpec := { name := "shaGoes", fn := fun _ => fun
  | [d] => { results := [.lit (.bool true)], args := [d] }
  | _ => none }
def shaGoesRow : OpenClaim := { program := "ytmhjocbnoppbbaa", sum := "6f37454a5afd75e033dc81dd324dc0e74404af496a761cd04dbb5c3549391d37", func := "lading/ladinglaw02.ShaGoes", spec := "shaGoes", plainKeys := false, apart := false }
def ShaGoesSaid : Prop := shaGoesRow.holds Try.pinned (OpenSpec.ofChange shaGoesSpec)

/-- ITS FALSE NEIGHBOUR: 'it returns false'. Refute it at one input. -/
def shaGoesWrong : ChangeSpec := { name := "shaGoes", fn := fun _ => fun
  | [d] => { results := [.lit (.bool false)], args := [d] }
  | _ => none }
def ShaGoesWrongFalsely : Prop := shaGoesRow.holds Try.pinned (OpenSpec.ofChange shaGoesWrong)

/-- 'ladinglaw02.ShaWords': WHATEVER THE INPUT: true; the input reads as it did. -/
def shaWordsSpec : ChangeSpec := { name := "shaWords", fn := fun _ => fun
  | [d1, d2] => { results := [.lit (.bool true)], args := [d1, d2] }
  | _ => none }
def shaWordsRow : OpenClaim := { program := "ytmhjocbnoppbbaa", sum := "6f37454a5afd75e033dc81dd324dc0e74404af496a761cd04dbb5c3549391d37", func := "lading/ladinglaw02.ShaWords", spec := "shaWords", plainKeys := false, apart := false }
def ShaWordsSaid : Prop := shaWordsRow.holds Try.pinned (OpenSpec.ofChange shaWordsSpec)

/-- ITS FALSE NEIGHBOUR: 'it returns false'. Refute it at one input. -/
def shaWordsWrong : ChangeSpec := { name := "shaWords", fn := fun _ => fun
  | [d1, d2] => { results := [.lit (.bool false)], args := [d1, d2] }
  | _ => none }
def ShaWordsWrongFalsely : Prop := shaWordsRow.holds Try.pinned (OpenSpec.ofChange shaWordsWrong)

/-- 'ladinglaw02.ShaApart': WHATEVER THE INPUT: true; the input reads as it did. -/
def shaApartSpec : ChangeSpec := { name := "shaApart", fn := fun _ => fun
  | [d1, d2] => { results := [.lit (.bool true)], args := [d1, d2] }
  | _ => none }
def shaApartRow : OpenClaim := { program := "ytmhjocbnoppbbaa", sum := "6f37454a5afd75e033dc81dd324dc0e74404af496a761cd04dbb5c3549391d37", func := "lading/ladinglaw02.ShaApart", spec := "shaApart", plainKeys := false, apart := false }
def ShaApartSaid : Prop := shaApartRow.holds Try.pinned (OpenSpec.ofChange shaApartSpec)

/-- ITS FALSE NEIGHBOUR: 'it returns false'. Refute it at one input. -/
def shaApartWrong : ChangeSpec := { name := "shaApart", fn := fun _ => fun
  | [d1, d2] => { results := [.lit (.bool false)], args := [d1, d2] }
  | _ => none }
def ShaApartWrongFalsely : Prop := shaApartRow.holds Try.pinned (OpenSpec.ofChange shaApartWrong)

/-- 'ladinglaw09.MerkleApart': WHATEVER THE INPUT: true; the input reads as it did. -/
def merkleApartSpec : ChangeSpec := { name := "merkleApart", fn := fun _ => fun
  | [d1, d2] => { results := [.lit (.bool true)], args := [d1, d2] }
  | _ => none }
def merkleApartRow : OpenClaim := { program := "ytmhjocbnoppbbaa", sum := "6f37454a5afd75e033dc81dd324dc0e74404af496a761cd04dbb5c3549391d37", func := "lading/ladinglaw09.MerkleApart", spec := "merkleApart", recurses := true, plainKeys := false, apart := false }
def MerkleApartSaid : Prop := merkleApartRow.holds Try.pinned (OpenSpec.ofChange merkleApartSpec)

/-- ITS FALSE NEIGHBOUR: 'it returns false'. Refute it at one input. -/
def merkleApartWrong : ChangeSpec := { name := "merkleApart", fn := fun _ => fun
  | [d1, d2] => { results := [.lit (.bool false)], args := [d1, d2] }
  | _ => none }
def MerkleApartWrongFalsely : Prop := merkleApartRow.holds Try.pinned (OpenSpec.ofChange merkleApartWrong)

/-- 'ladinglaw09.MerkleUnlike': WHATEVER THE INPUT: true; the input reads as it did. -/
def merkleUnlikeSpec : ChangeSpec := { name := "merkleUnlike", fn := fun _ => fun
  | [d1, d2] => { results := [.lit (.bool true)], args := [d1, d2] }
  | _ => none }
def merkleUnlikeRow : OpenClaim := { program := "ytmhjocbnoppbbaa", sum := "6f37454a5afd75e033dc81dd324dc0e74404af496a761cd04dbb5c3549391d37", func := "lading/ladinglaw09.MerkleUnlike", spec := "merkleUnlike", recurses := true, plainKeys := false, apart := false }
def MerkleUnlikeSaid : Prop := merkleUnlikeRow.holds Try.pinned (OpenSpec.ofChange merkleUnlikeSpec)

/-- ITS FALSE NEIGHBOUR: 'it returns false'. Refute it at one input. -/
def merkleUnlikeWrong : ChangeSpec := { name := "merkleUnlike", fn := fun _ => fun
  | [d1, d2] => { results := [.lit (.bool false)], args := [d1, d2] }
  | _ => none }
def MerkleUnlikeWrongFalsely : Prop := merkleUnlikeRow.holds Try.pinned (OpenSpec.ofChange merkleUnlikeWrong)

/- THE SECOND FORM. 'bulk': how many values and letters a reading holds, each counted each time it is reached (what is shared counts as often as it is met; a slice's spare places count too). A statement '..UptoSaid' is the law's where the arguments, and the package variables that the reading takes, are together of bulk at most 1048576: NARROWER than '..Said'. Prove '..Said' where nothing that the law and all that it calls make is longer than what came in: it says more and counts as full. Else prove '..UptoSaid'. A law counts once. -/
mutual
def uptoBulk {H : Type} : DataW H → Nat
  | .lit (.string bytes) => bytes.length + 1
  | .lit _ => 1
  | .nil => 1
  | .ptr d => uptoBulk d + 1
  | .slice elems spare => uptoBulkAll elems + uptoBulkAll spare + 1
  | .agg parts => uptoBulkAll parts + 1
  | .iface _ d => uptoBulk d + 1
  | .map entries => uptoBulkEntries entries + 1
  | .held _ => 1
def uptoBulkAll {H : Type} : List (DataW H) → Nat
  | [] => 0
  | d :: r => uptoBulk d + uptoBulkAll r
def uptoBulkEntries {H : Type} : List (Lit × DataW H) → Nat
  | [] => 0
  | x :: r => uptoBulkEntry x + uptoBulkEntries r
def uptoBulkEntry {H : Type} : Lit × DataW H → Nat
  | (.string bytes, d) => bytes.length + uptoBulk d + 1
  | (_, d) => uptoBulk d + 1
 end
def uptoSmall : (H : Type) → List (DataW H) → Bool := fun _ ds => decide (uptoBulkAll ds ≤ 1048576)
def OpenSpec.upto (s : _root_.Go.ChangeSpec) : _root_.Go.OpenSpec := { _root_.Go.OpenSpec.ofChange s with cond := some uptoSmall }

/-- 'ladinglaw08.BlockSpans', WHERE WHAT IT READS IS OF BULK AT MOST 1048576: true; the input reads as it did. -/
def blockSpansUptoRow : OpenClaim := { program := "ytmhjocbnoppbbaa", sum := "6f37454a5afd75e033dc81dd324dc0e74404af496a761cd04dbb5c3549391d37", func := "lading/ladinglaw08.BlockSpans", spec := "blockSpans", plainKeys := false, apart := false, narrowed := true }
def BlockSpansUptoSaid : Prop := blockSpansUptoRow.holds Try.pinned (OpenSpec.upto blockSpansSpec)

/-- 'ladinglaw08.BlockCuts', WHERE WHAT IT READS IS OF BULK AT MOST 1048576: true; the input reads as it did. -/
def blockCutsUptoRow : OpenClaim := { program := "ytmhjocbnoppbbaa", sum := "6f37454a5afd75e033dc81dd324dc0e74404af496a761cd04dbb5c3549391d37", func := "lading/ladinglaw08.BlockCuts", spec := "blockCuts", inPlace := ["internal/abi.NoEscape", "internal/bytealg.MakeNoZero"], plainKeys := false, apart := false, narrowed := true }
def BlockCutsUptoSaid : Prop := blockCutsUptoRow.holds Try.pinned (OpenSpec.upto blockCutsSpec)

/-- 'ladinglaw02.ShaSums', WHERE WHAT IT READS IS OF BULK AT MOST 1048576: true; the input reads as it did. -/
def shaSumsUptoRow : OpenClaim := { program := "ytmhjocbnoppbbaa", sum := "6f37454a5afd75e033dc81dd324dc0e74404af496a761cd04dbb5c3549391d37", func := "lading/ladinglaw02.ShaSums", spec := "shaSums", plainKeys := false, apart := false, narrowed := true }
def ShaSumsUptoSaid : Prop := shaSumsUptoRow.holds Try.pinned (OpenSpec.upto shaSumsSpec)

/-- 'ladinglaw02.ShaGoes', WHERE WHAT IT READS IS OF BULK AT MOST 1048576: true; the input reads as it did. -/
def shaGoesUptoRow : OpenClaim := { program := "ytmhjocbnoppbbaa", sum := "6f37454a5afd75e033dc81dd324dc0e74404af496a761cd04dbb5c3549391d37", func := "lading/ladinglaw02.ShaGoes", spec := "shaGoes", plainKeys := false, apart := false, narrowed := true }
def ShaGoesUptoSaid : Prop := shaGoesUptoRow.holds Try.pinned (OpenSpec.upto shaGoesSpec)

/-- 'ladinglaw02.ShaWords', WHERE WHAT IT READS IS OF BULK AT MOST 1048576: true; the input reads as it did. -/
def shaWordsUptoRow : OpenClaim := { program := "ytmhjocbnoppbbaa", sum := "6f37454a5afd75e033dc81dd324dc0e74404af496a761cd04dbb5c3549391d37", func := "lading/ladinglaw02.ShaWords", spec := "shaWords", plainKeys := false, apart := false, narrowed := true }
def ShaWordsUptoSaid : Prop := shaWordsUptoRow.holds Try.pinned (OpenSpec.upto shaWordsSpec)

/-- 'ladinglaw02.ShaApart', WHERE WHAT IT READS IS OF BULK AT MOST 1048576: true; the input reads as it did. -/
def shaApartUptoRow : OpenClaim := { program := "ytmhjocbnoppbbaa", sum := "6f37454a5afd75e033dc81dd324dc0e74404af496a761cd04dbb5c3549391d37", func := "lading/ladinglaw02.ShaApart", spec := "shaApart", plainKeys := false, apart := false, narrowed := true }
def ShaApartUptoSaid : Prop := shaApartUptoRow.holds Try.pinned (OpenSpec.upto shaApartSpec)

/-- 'ladinglaw09.MerkleApart', WHERE WHAT IT READS IS OF BULK AT MOST 1048576: true; the input reads as it did. -/
def merkleApartUptoRow : OpenClaim := { program := "ytmhjocbnoppbbaa", sum := "6f37454a5afd75e033dc81dd324dc0e74404af496a761cd04dbb5c3549391d37", func := "lading/ladinglaw09.MerkleApart", spec := "merkleApart", recurses := true, plainKeys := false, apart := false, narrowed := true }
def MerkleApartUptoSaid : Prop := merkleApartUptoRow.holds Try.pinned (OpenSpec.upto merkleApartSpec)

/-- 'ladinglaw09.MerkleUnlike', WHERE WHAT IT READS IS OF BULK AT MOST 1048576: true; the input reads as it did. -/
def merkleUnlikeUptoRow : OpenClaim := { program := "ytmhjocbnoppbbaa", sum := "6f37454a5afd75e033dc81dd324dc0e74404af496a761cd04dbb5c3549391d37", func := "lading/ladinglaw09.MerkleUnlike", spec := "merkleUnlike", recurses := true, plainKeys := false, apart := false, narrowed := true }
def MerkleUnlikeUptoSaid : Prop := merkleUnlikeUptoRow.holds Try.pinned (OpenSpec.upto merkleUnlikeSpec)

end Rows
end Go.Proofs.Ytmhjocbnoppbbaa
