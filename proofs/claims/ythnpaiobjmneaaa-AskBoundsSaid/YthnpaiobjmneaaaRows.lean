/-
  No cell of these rows narrows 'for every input' (looked for: loops, veiled, ifaces, maps, wideKeys, modest, calm, conditions, laid).
  DERIVED. THE GIVEN ROWS OF THIS SEAT. 9 by the template 'for every input the law returns true; each argument reads behind the call as it read before'; 0 by the template 'total and deterministic' (their statements: YthnpaiobjmneaaaTotals.lean).
  GIVEN WITH THE SEED: the statements are not yours to turn. If you find one false, say at which input.
  Laid BY PROGRAM, IN A SANDBOX (cutbox-rows.mjs): the forced cells as the released guide's own fill.sh prints them over the translation 801809aff3af8632… (all of the seat's roots in one cut). By AI agents, Wed Nov 11 2026. No macro, syntax, notation, axiom, sorry.
-/
import Derived.Test.YthnpaiobjmneaaaChecked
import GoSem.Claim
import GoSem.ClaimJoined
import GoSem.ClaimMapViews
import Derived.JoinedTies
import Derived.KernelRfl
namespace Go.Proofs.Ythnpaiobjmneaaa
/- THE CELL 'sum', in the pinned program and in every row, IS THE sha256 OF THE DUMP (.gsa) THAT YthnpaiobjmneaaaProg.lean LOADS. Nothing in Lean hashes anything: it is a label: what it is worth is what the hold of that sum in a sandbox is worth. -/
noncomputable def Try.pinned : Pinned := { name := "ythnpaiobjmneaaa", sum := "801809aff3af86322cda4afadcc654ff44741d0d7879b59cbf955d5bf6cd3649", checked := Try.checked }
namespace Rows
def none {H : Type} : Left H := { results := [], args := [] }

/-- 'ladinglaw17.WantLate': WHATEVER THE INPUT: true; the input reads as it did. -/
def wantLateSpec : ChangeSpec := { name := "wantLate", fn := fun _ => fun
  | [d1, d2, d3] => { results := [.lit (.bool true)], args := [d1, d2, d3] }
  | _ => none }
def wantLateRow : OpenClaim := { program := "ythnpaiobjmneaaa", sum := "801809aff3af86322cda4afadcc654ff44741d0d7879b59cbf955d5bf6cd3649", func := "lading/ladinglaw17.WantLate", spec := "wantLate", unfollowed := true, recurses := true, apart := false }
def WantLateSaid : Prop := wantLateRow.holds Try.pinned (OpenSpec.ofChange wantLateSpec)

/-- ITS FALSE NEIGHBOUR: 'it returns false'. Refute it at one input. -/
def wantLateWrong : ChangeSpec := { name := "wantLate", fn := fun _ => fun
  | [d1, d2, d3] => { results := [.lit (.bool false)], args := [d1, d2, d3] }
  | _ => none }
def WantLateWrongFalsely : Prop := wantLateRow.holds Try.pinned (OpenSpec.ofChange wantLateWrong)

/-- 'ladinglaw17.WantAll': WHATEVER THE INPUT: true; the input reads as it did. -/
def wantAllSpec : ChangeSpec := { name := "wantAll", fn := fun _ => fun
  | [d1, d2, d3] => { results := [.lit (.bool true)], args := [d1, d2, d3] }
  | _ => none }
def wantAllRow : OpenClaim := { program := "ythnpaiobjmneaaa", sum := "801809aff3af86322cda4afadcc654ff44741d0d7879b59cbf955d5bf6cd3649", func := "lading/ladinglaw17.WantAll", spec := "wantAll", unfollowed := true, recurses := true, apart := false }
def WantAllSaid : Prop := wantAllRow.holds Try.pinned (OpenSpec.ofChange wantAllSpec)

/-- ITS FALSE NEIGHBOUR: 'it returns false'. Refute it at one input. -/
def wantAllWrong : ChangeSpec := { name := "wantAll", fn := fun _ => fun
  | [d1, d2, d3] => { results := [.lit (.bool false)], args := [d1, d2, d3] }
  | _ => none }
def WantAllWrongFalsely : Prop := wantAllRow.holds Try.pinned (OpenSpec.ofChange wantAllWrong)

/-- 'ladinglaw04.EdgesDegrees': WHATEVER THE INPUT: true; the input reads as it did. -/
def edgesDegreesSpec : ChangeSpec := { name := "edgesDegrees", fn := fun _ => fun
  | [d1, d2] => { results := [.lit (.bool true)], args := [d1, d2] }
  | _ => none }
def edgesDegreesRow : OpenClaim := { program := "ythnpaiobjmneaaa", sum := "801809aff3af86322cda4afadcc654ff44741d0d7879b59cbf955d5bf6cd3649", func := "lading/ladinglaw04.EdgesDegrees", spec := "edgesDegrees", unfollowed := true, recurses := true, apart := false }
def EdgesDegreesSaid : Prop := edgesDegreesRow.holds Try.pinned (OpenSpec.ofChange edgesDegreesSpec)

/-- ITS FALSE NEIGHBOUR: 'it returns false'. Refute it at one input. -/
def edgesDegreesWrong : ChangeSpec := { name := "edgesDegrees", fn := fun _ => fun
  | [d1, d2] => { results := [.lit (.bool false)], args := [d1, d2] }
  | _ => none }
def EdgesDegreesWrongFalsely : Prop := edgesDegreesRow.holds Try.pinned (OpenSpec.ofChange edgesDegreesWrong)

/-- 'ladinglaw04.EdgesMerge': WHATEVER THE INPUT: true; the input reads as it did. -/
def edgesMergeSpec : ChangeSpec := { name := "edgesMerge", fn := fun _ => fun
  | [d1, d2, d3] => { results := [.lit (.bool true)], args := [d1, d2, d3] }
  | _ => none }
def edgesMergeRow : OpenClaim := { program := "ythnpaiobjmneaaa", sum := "801809aff3af86322cda4afadcc654ff44741d0d7879b59cbf955d5bf6cd3649", func := "lading/ladinglaw04.EdgesMerge", spec := "edgesMerge", unfollowed := true, recurses := true, apart := false }
def EdgesMergeSaid : Prop := edgesMergeRow.holds Try.pinned (OpenSpec.ofChange edgesMergeSpec)

/-- ITS FALSE NEIGHBOUR: 'it returns false'. Refute it at one input. -/
def edgesMergeWrong : ChangeSpec := { name := "edgesMerge", fn := fun _ => fun
  | [d1, d2, d3] => { results := [.lit (.bool false)], args := [d1, d2, d3] }
  | _ => none }
def EdgesMergeWrongFalsely : Prop := edgesMergeRow.holds Try.pinned (OpenSpec.ofChange edgesMergeWrong)

/-- 'ladinglaw04.EdgesTurns': WHATEVER THE INPUT: true; the input reads as it did. -/
def edgesTurnsSpec : ChangeSpec := { name := "edgesTurns", fn := fun _ => fun
  | [d1, d2, d3] => { results := [.lit (.bool true)], args := [d1, d2, d3] }
  | _ => none }
def edgesTurnsRow : OpenClaim := { program := "ythnpaiobjmneaaa", sum := "801809aff3af86322cda4afadcc654ff44741d0d7879b59cbf955d5bf6cd3649", func := "lading/ladinglaw04.EdgesTurns", spec := "edgesTurns", unfollowed := true, recurses := true, apart := false }
def EdgesTurnsSaid : Prop := edgesTurnsRow.holds Try.pinned (OpenSpec.ofChange edgesTurnsSpec)

/-- ITS FALSE NEIGHBOUR: 'it returns false'. Refute it at one input. -/
def edgesTurnsWrong : ChangeSpec := { name := "edgesTurns", fn := fun _ => fun
  | [d1, d2, d3] => { results := [.lit (.bool false)], args := [d1, d2, d3] }
  | _ => none }
def EdgesTurnsWrongFalsely : Prop := edgesTurnsRow.holds Try.pinned (OpenSpec.ofChange edgesTurnsWrong)

/-- 'ladinglaw17.WantBits': WHATEVER THE INPUT: true; the input reads as it did. -/
def wantBitsSpec : ChangeSpec := { name := "wantBits", fn := fun _ => fun
  | [d1, d2, d3] => { results := [.lit (.bool true)], args := [d1, d2, d3] }
  | _ => none }
def wantBitsRow : OpenClaim := { program := "ythnpaiobjmneaaa", sum := "801809aff3af86322cda4afadcc654ff44741d0d7879b59cbf955d5bf6cd3649", func := "lading/ladinglaw17.WantBits", spec := "wantBits", unfollowed := true, recurses := true, apart := false }
def WantBitsSaid : Prop := wantBitsRow.holds Try.pinned (OpenSpec.ofChange wantBitsSpec)

/-- ITS FALSE NEIGHBOUR: 'it returns false'. Refute it at one input. -/
def wantBitsWrong : ChangeSpec := { name := "wantBits", fn := fun _ => fun
  | [d1, d2, d3] => { results := [.lit (.bool false)], args := [d1, d2, d3] }
  | _ => none }
def WantBitsWrongFalsely : Prop := wantBitsRow.holds Try.pinned (OpenSpec.ofChange wantBitsWrong)

/-- 'ladinglaw05.CsrApart': WHATEVER THE INPUT: true; the input reads as it did. -/
def csrApartSpec : ChangeSpec := { name := "csrApart", fn := fun _ => fun
  | [d1, d2] => { results := [.lit (.bool true)], args := [d1, d2] }
  | _ => none }
def csrApartRow : OpenClaim := { program := "ythnpaiobjmneaaa", sum := "801809aff3af86322cda4afadcc654ff44741d0d7879b59cbf955d5bf6cd3649", func := "lading/ladinglaw05.CsrApart", spec := "csrApart", unfollowed := true, recurses := true, apart := false }
def CsrApartSaid : Prop := csrApartRow.holds Try.pinned (OpenSpec.ofChange csrApartSpec)

/-- ITS FALSE NEIGHBOUR: 'it returns false'. Refute it at one input. -/
def csrApartWrong : ChangeSpec := { name := "csrApart", fn := fun _ => fun
  | [d1, d2] => { results := [.lit (.bool false)], args := [d1, d2] }
  | _ => none }
def CsrApartWrongFalsely : Prop := csrApartRow.holds Try.pinned (OpenSpec.ofChange csrApartWrong)

/-- 'ladinglaw05.CsrCounts': WHATEVER THE INPUT: true; the input reads as it did. -/
def csrCountsSpec : ChangeSpec := { name := "csrCounts", fn := fun _ => fun
  | [d1, d2] => { results := [.lit (.bool true)], args := [d1, d2] }
  | _ => none }
def csrCountsRow : OpenClaim := { program := "ythnpaiobjmneaaa", sum := "801809aff3af86322cda4afadcc654ff44741d0d7879b59cbf955d5bf6cd3649", func := "lading/ladinglaw05.CsrCounts", spec := "csrCounts", unfollowed := true, recurses := true, apart := false }
def CsrCountsSaid : Prop := csrCountsRow.holds Try.pinned (OpenSpec.ofChange csrCountsSpec)

/-- ITS FALSE NEIGHBOUR: 'it returns false'. Refute it at one input. -/
def csrCountsWrong : ChangeSpec := { name := "csrCounts", fn := fun _ => fun
  | [d1, d2] => { results := [.lit (.bool false)], args := [d1, d2] }
  | _ => none }
def CsrCountsWrongFalsely : Prop := csrCountsRow.holds Try.pinned (OpenSpec.ofChange csrCountsWrong)

/-- 'ladinglaw11.AskBounds': WHATEVER THE INPUT: true; the input reads as it did. -/
def askBoundsSpec : ChangeSpec := { name := "askBounds", fn := fun _ => fun
  | [d1, d2, d3] => { results := [.lit (.bool true)], args := [d1, d2, d3] }
  | _ => none }
def askBoundsRow : OpenClaim := { program := "ythnpaiobjmneaaa", sum := "801809aff3af86322cda4afadcc654ff44741d0d7879b59cbf955d5bf6cd3649", func := "lading/ladinglaw11.AskBounds", spec := "askBounds", unfollowed := true, recurses := true, apart := false }
def AskBoundsSaid : Prop := askBoundsRow.holds Try.pinned (OpenSpec.ofChange askBoundsSpec)

/-- ITS FALSE NEIGHBOUR: 'it returns false'. Refute it at one input. -/
def askBoundsWrong : ChangeSpec := { name := "askBounds", fn := fun _ => fun
  | [d1, d2, d3] => { results := [.lit (.bool false)], args := [d1, d2, d3] }
  | _ => none }
def AskBoundsWrongFalsely : Prop := askBoundsRow.holds Try.pinned (OpenSpec.ofChange askBoundsWrong)

/- THE SECOND FORM. 'bulk': how many values and letters a reading holds, each counted each time it is reached (what is shared counts as often as it is met; a slice's spare places count too). A statement '..UptoSaid' is the law's where the arguments, and the package variables that the reading takes, are together of bulk at most 1048576: NARROWER than '..Said'. Prove '..Said' where nothing that the law and all that it calls make is longer than what came in: it says more and counts as full. Else prove '..UptoSaid'. A law counts once. -/
mutual
def uptoBulk {H : Type} : DataW H → Nat
  | .lit (.string bytes) => bytes.length + 1
  | .lit _ => 1
  | .nil => 1
  | .ptr d => uptoBulk d + 1
  | .slice elems spare => uptoBulkAll elems + uptoBulkAll spare + 1
  | .agg parts => uptoBulkAll parts + 1
  | .iface _ d => uptoBulk d + 1
  | .map entries => uptoBulkEntries entries + 1
  | .held _ => 1
def uptoBulkAll {H : Type} : List (DataW H) → Nat
  | [] => 0
  | d :: r => uptoBulk d + uptoBulkAll r
def uptoBulkEntries {H : Type} : List (Lit × DataW H) → Nat
  | [] => 0
  | x :: r => uptoBulkEntry x + uptoBulkEntries r
def uptoBulkEntry {H : Type} : Lit × DataW H → Nat
  | (.string bytes, d) => bytes.length + uptoBulk d + 1
  | (_, d) => uptoBulk d + 1
 end
def uptoSmall : (H : Type) → List (DataW H) → Bool := fun _ ds => decide (uptoBulkAll ds ≤ 1048576)
def OpenSpec.upto (s : _root_.Go.ChangeSpec) : _root_.Go.OpenSpec := { _root_.Go.OpenSpec.ofChange s with cond := some uptoSmall }

/-- 'ladinglaw17.WantLate', WHERE WHAT IT READS IS OF BULK AT MOST 1048576: true; the input reads as it did. -/
def wantLateUptoRow : OpenClaim := { program := "ythnpaiobjmneaaa", sum := "801809aff3af86322cda4afadcc654ff44741d0d7879b59cbf955d5bf6cd3649", func := "lading/ladinglaw17.WantLate", spec := "wantLate", unfollowed := true, recurses := true, apart := false, narrowed := true }
def WantLateUptoSaid : Prop := wantLateUptoRow.holds Try.pinned (OpenSpec.upto wantLateSpec)

/-- 'ladinglaw17.WantAll', WHERE WHAT IT READS IS OF BULK AT MOST 1048576: true; the input reads as it did. -/
def wantAllUptoRow : OpenClaim := { program := "ythnpaiobjmneaaa", sum := "801809aff3af86322cda4afadcc654ff44741d0d7879b59cbf955d5bf6cd3649", func := "lading/ladinglaw17.WantAll", spec := "wantAll", unfollowed := true, recurses := true, apart := false, narrowed := true }
def WantAllUptoSaid : Prop := wantAllUptoRow.holds Try.pinned (OpenSpec.upto wantAllSpec)

/-- 'ladinglaw04.EdgesDegrees', WHERE WHAT IT READS IS OF BULK AT MOST 1048576: true; the input reads as it did. -/
def edgesDegreesUptoRow : OpenClaim := { program := "ythnpaiobjmneaaa", sum := "801809aff3af86322cda4afadcc654ff44741d0d7879b59cbf955d5bf6cd3649", func := "lading/ladinglaw04.EdgesDegrees", spec := "edgesDegrees", unfollowed := true, recurses := true, apart := false, narrowed := true }
def EdgesDegreesUptoSaid : Prop := edgesDegreesUptoRow.holds Try.pinned (OpenSpec.upto edgesDegreesSpec)

/-- 'ladinglaw04.EdgesMerge', WHERE WHAT IT READS IS OF BULK AT MOST 1048576: true; the input reads as it did. -/
def edgesMergeUptoRow : OpenClaim := { program := "ythnpaiobjmneaaa", sum := "801809aff3af86322cda4afadcc654ff44741d0d7879b59cbf955d5bf6cd3649", func := "lading/ladinglaw04.EdgesMerge", spec := "edgesMerge", unfollowed := true, recurses := true, apart := false, narrowed := true }
def EdgesMergeUptoSaid : Prop := edgesMergeUptoRow.holds Try.pinned (OpenSpec.upto edgesMergeSpec)

/-- 'ladinglaw04.EdgesTurns', WHERE WHAT IT READS IS OF BULK AT MOST 1048576: true; the input reads as it did. -/
def edgesTurnsUptoRow : OpenClaim := { program := "ythnpaiobjmneaaa", sum := "801809aff3af86322cda4afadcc654ff44741d0d7879b59cbf955d5bf6cd3649", func := "lading/ladinglaw04.EdgesTurns", spec := "edgesTurns", unfollowed := true, recurses := true, apart := false, narrowed := true }
def EdgesTurnsUptoSaid : Prop := edgesTurnsUptoRow.holds Try.pinned (OpenSpec.upto edgesTurnsSpec)

/-- 'ladinglaw17.WantBits', WHERE WHAT IT READS IS OF BULK AT MOST 1048576: true; the input reads as it did. -/
def wantBitsUptoRow : OpenClaim := { program := "ythnpaiobjmneaaa", sum := "801809aff3af86322cda4afadcc654ff44741d0d7879b59cbf955d5bf6cd3649", func := "lading/ladinglaw17.WantBits", spec := "wantBits", unfollowed := true, recurses := true, apart := false, narrowed := true }
def WantBitsUptoSaid : Prop := wantBitsUptoRow.holds Try.pinned (OpenSpec.upto wantBitsSpec)

/-- 'ladinglaw05.CsrApart', WHERE WHAT IT READS IS OF BULK AT MOST 1048576: true; the input reads as it did. -/
def csrApartUptoRow : OpenClaim := { program := "ythnpaiobjmneaaa", sum := "801809aff3af86322cda4afadcc654ff44741d0d7879b59cbf955d5bf6cd3649", func := "lading/ladinglaw05.CsrApart", spec := "csrApart", unfollowed := true, recurses := true, apart := false, narrowed := true }
def CsrApartUptoSaid : Prop := csrApartUptoRow.holds Try.pinned (OpenSpec.upto csrApartSpec)

/-- 'ladinglaw05.CsrCounts', WHERE WHAT IT READS IS OF BULK AT MOST 1048576: true; the input reads as it did. -/
def csrCountsUptoRow : OpenClaim := { program := "ythnpaiobjmneaaa", sum := "801809aff3af86322cda4afadcc654ff44741d0d7879b59cbf955d5bf6cd3649", func := "lading/ladinglaw05.CsrCounts", spec := "csrCounts", unfollowed := true, recurses := true, apart := false, narrowed := true }
def CsrCountsUptoSaid : Prop := csrCountsUptoRow.holds Try.pinned (OpenSpec.upto csrCountsSpec)

/-- 'ladinglaw11.AskBounds', WHERE WHAT IT READS IS OF BULK AT MOST 1048576: true; the input reads as it did. -/
def askBoundsUptoRow : OpenClaim := { program := "ythnpaiobjmneaaa", sum := "801809aff3af86322cda4afadcc654ff44741d0d7879b59cbf955d5bf6cd3649", func := "lading/ladinglaw11.AskBounds", spec := "askBounds", unfollowed := true, recurses := true, apart := false, narrowed := true }
def AskBoundsUptoSaid : Prop := askBoundsUptoRow.holds Try.pinned (OpenSpec.upto askBoundsSpec)

end Rows
end Go.Proofs.Ythnpaiobjmneaaa
