/-
  NARROWER THAN 'FOR EVERY INPUT', by the rows' own cells (each row's printed sentence says how): ShardSplits: laid · ShardPuts: laid · ShardGets: laid · ManifestVersions: laid · ManifestMakes: laid · ManifestGets: laid.
  DERIVED. THE GIVEN ROWS OF THIS SEAT. 6 by the template 'for every input the law returns true; each argument reads behind the call as it read before'; 0 by the template 'total and deterministic' (their statements: YtjokfllldcjheaaGreatDoorTotals.lean).
  GIVEN WITH THE SEED: the statements are not yours to turn. If you find one false, say at which input.
  Laid BY PROGRAM, IN A SANDBOX (cutbox-rows.mjs): the forced cells as the released guide's own fill.sh prints them over the translation 152cf7273ebf9989… (all of the seat's roots in one cut). By AI agents, Wed Nov 11 2026. No macro, syntax, notation, axiom, sorry.
-/
import Derived.Test.YtjokfllldcjheaaGreatDoorChecked
import GoSem.Claim
import GoSem.ClaimJoined
import GoSem.ClaimMapViews
import Derived.JoinedTies
import Derived.KernelRfl
namespace Go.Proofs.YtjokfllldcjheaaGreatDoor
/- THE CELL 'sum', in the pinned program and in every row, IS THE sha256 OF THE DUMP (.gsa) THAT YtjokfllldcjheaaGreatDoorProg.lean LOADS. Nothing in Lean hashes anything: it is a label: what it is worth is what the hold of that sum in a sandbox is worth. -/
noncomputable def Tryz.pinned : Pinned := { name := "ytjokfllldcjheaagreatdoor", sum := "152cf7273ebf9989f0d01b16cb460f706f040e34825b298db34f49b601e4c824", checked := Tryz.checked }
namespace Rows
def none {H : Type} : Left H := { results := [], args := [] }

/- WHAT THE LISTED PACKAGE-LEVEL VARIABLES READ AS WHEN THE CALL BEGINS. Each datum BY PROGRAM (the guide's laid-datum.mjs) off the statement by which the dump's own 'gosem.cut.vars' lays the variable. In a bare row this is a premise. The card (YtjokfllldcjheaaGreatDoorCards.lean) ties it to the program's text. -/
def laid_errors_errorType {H : Type} : DataW H := .iface "internal/reflectlite.rtype" (.agg [.ptr (.lit (.string [101, 114, 114, 111, 114]))])

/-- 'ladinglaw07.ShardSplits': WHATEVER THE INPUT: true; the input reads as it did. -/
def shardSplitsSpec : ChangeSpec := { name := "shardSplits", fn := fun _ => fun
  | [d1, d2, d3] => { results := [.lit (.bool true)], args := [d1, d2, d3] }
  | _ => none }
def shardSplitsRow : OpenClaim := { program := "ytjokfllldcjheaagreatdoor", sum := "152cf7273ebf9989f0d01b16cb460f706f040e34825b298db34f49b601e4c824", func := "lading/ladinglaw07.ShardSplits", spec := "shardSplits", inPlace := ["internal/abi.NoEscape", "internal/reflectlite.ValueOf", "(internal/reflectlite.Value).Type", "(internal/reflectlite.Value).IsNil", "internal/reflectlite.TypeOf", "(internal/reflectlite.Value).Elem", "(internal/reflectlite.Value).Set"], unfollowed := true, recurses := true, named := ["errors.errorType"], plainKeys := false, apart := false, laid := [("errors.errorType", laid_errors_errorType)] }
def ShardSplitsSaid : Prop := shardSplitsRow.holds Tryz.pinned (OpenSpec.ofChange shardSplitsSpec)

/-- ITS FALSE NEIGHBOUR: 'it returns false'. Refute it at one input. -/
def shardSplitsWrong : ChangeSpec := { name := "shardSplits", fn := fun _ => fun
  | [d1, d2, d3] => { results := [.lit (.bool false)], args := [d1, d2, d3] }
  | _ => none }
def ShardSplitsWrongFalsely : Prop := shardSplitsRow.holds Tryz.pinned (OpenSpec.ofChange shardSplitsWrong)

/-- 'ladinglaw07.ShardPuts': WHATEVER THE INPUT: true; the input reads as it did. -/
def shardPutsSpec : ChangeSpec := { name := "shardPuts", fn := fun _ => fun
  | [d1, d2, d3] => { results := [.lit (.bool true)], args := [d1, d2, d3] }
  | _ => none }
def shardPutsRow : OpenClaim := { program := "ytjokfllldcjheaagreatdoor", sum := "152cf7273ebf9989f0d01b16cb460f706f040e34825b298db34f49b601e4c824", func := "lading/ladinglaw07.ShardPuts", spec := "shardPuts", inPlace := ["internal/abi.NoEscape", "internal/reflectlite.ValueOf", "(internal/reflectlite.Value).Type", "(internal/reflectlite.Value).IsNil", "internal/reflectlite.TypeOf", "(internal/reflectlite.Value).Elem", "(internal/reflectlite.Value).Set"], unfollowed := true, recurses := true, named := ["errors.errorType"], plainKeys := false, apart := false, laid := [("errors.errorType", laid_errors_errorType)] }
def ShardPutsSaid : Prop := shardPutsRow.holds Tryz.pinned (OpenSpec.ofChange shardPutsSpec)

/-- ITS FALSE NEIGHBOUR: 'it returns false'. Refute it at one input. -/
def shardPutsWrong : ChangeSpec := { name := "shardPuts", fn := fun _ => fun
  | [d1, d2, d3] => { results := [.lit (.bool false)], args := [d1, d2, d3] }
  | _ => none }
def ShardPutsWrongFalsely : Prop := shardPutsRow.holds Tryz.pinned (OpenSpec.ofChange shardPutsWrong)

/-- 'ladinglaw07.ShardGets': WHATEVER THE INPUT: true; the input reads as it did. -/
def shardGetsSpec : ChangeSpec := { name := "shardGets", fn := fun _ => fun
  | [d1, d2, d3] => { results := [.lit (.bool true)], args := [d1, d2, d3] }
  | _ => none }
def shardGetsRow : OpenClaim := { program := "ytjokfllldcjheaagreatdoor", sum := "152cf7273ebf9989f0d01b16cb460f706f040e34825b298db34f49b601e4c824", func := "lading/ladinglaw07.ShardGets", spec := "shardGets", inPlace := ["internal/abi.NoEscape", "internal/reflectlite.ValueOf", "(internal/reflectlite.Value).Type", "(internal/reflectlite.Value).IsNil", "internal/reflectlite.TypeOf", "(internal/reflectlite.Value).Elem", "(internal/reflectlite.Value).Set"], unfollowed := true, recurses := true, named := ["errors.errorType"], plainKeys := false, apart := false, laid := [("errors.errorType", laid_errors_errorType)] }
def ShardGetsSaid : Prop := shardGetsRow.holds Tryz.pinned (OpenSpec.ofChange shardGetsSpec)

/-- ITS FALSE NEIGHBOUR: 'it returns false'. Refute it at one input. -/
def shardGetsWrong : ChangeSpec := { name := "shardGets", fn := fun _ => fun
  | [d1, d2, d3] => { results := [.lit (.bool false)], args := [d1, d2, d3] }
  | _ => none }
def ShardGetsWrongFalsely : Prop := shardGetsRow.holds Tryz.pinned (OpenSpec.ofChange shardGetsWrong)

/-- 'ladinglaw10.ManifestVersions': WHATEVER THE INPUT: true; the input reads as it did. -/
def manifestVersionsSpec : ChangeSpec := { name := "manifestVersions", fn := fun _ => fun
  | [d1, d2] => { results := [.lit (.bool true)], args := [d1, d2] }
  | _ => none }
def manifestVersionsRow : OpenClaim := { program := "ytjokfllldcjheaagreatdoor", sum := "152cf7273ebf9989f0d01b16cb460f706f040e34825b298db34f49b601e4c824", func := "lading/ladinglaw10.ManifestVersions", spec := "manifestVersions", inPlace := ["internal/abi.NoEscape", "internal/bytealg.MakeNoZero", "internal/reflectlite.ValueOf", "(internal/reflectlite.Value).Type", "(internal/reflectlite.Value).IsNil", "internal/reflectlite.TypeOf", "(internal/reflectlite.Value).Elem", "(internal/reflectlite.Value).Set"], unfollowed := true, recurses := true, named := ["errors.errorType"], plainKeys := false, apart := false, laid := [("errors.errorType", laid_errors_errorType)] }
def ManifestVersionsSaid : Prop := manifestVersionsRow.holds Tryz.pinned (OpenSpec.ofChange manifestVersionsSpec)

/-- ITS FALSE NEIGHBOUR: 'it returns false'. Refute it at one input. -/
def manifestVersionsWrong : ChangeSpec := { name := "manifestVersions", fn := fun _ => fun
  | [d1, d2] => { results := [.lit (.bool false)], args := [d1, d2] }
  | _ => none }
def ManifestVersionsWrongFalsely : Prop := manifestVersionsRow.holds Tryz.pinned (OpenSpec.ofChange manifestVersionsWrong)

/-- 'ladinglaw10.ManifestMakes': WHATEVER THE INPUT: true; the input reads as it did. -/
def manifestMakesSpec : ChangeSpec := { name := "manifestMakes", fn := fun _ => fun
  | [d1, d2, d3] => { results := [.lit (.bool true)], args := [d1, d2, d3] }
  | _ => none }
def manifestMakesRow : OpenClaim := { program := "ytjokfllldcjheaagreatdoor", sum := "152cf7273ebf9989f0d01b16cb460f706f040e34825b298db34f49b601e4c824", func := "lading/ladinglaw10.ManifestMakes", spec := "manifestMakes", inPlace := ["internal/abi.NoEscape", "internal/bytealg.MakeNoZero", "internal/reflectlite.ValueOf", "(internal/reflectlite.Value).Type", "(internal/reflectlite.Value).IsNil", "internal/reflectlite.TypeOf", "(internal/reflectlite.Value).Elem", "(internal/reflectlite.Value).Set"], unfollowed := true, recurses := true, named := ["errors.errorType"], plainKeys := false, apart := false, laid := [("errors.errorType", laid_errors_errorType)] }
def ManifestMakesSaid : Prop := manifestMakesRow.holds Tryz.pinned (OpenSpec.ofChange manifestMakesSpec)

/-- ITS FALSE NEIGHBOUR: 'it returns false'. Refute it at one input. -/
def manifestMakesWrong : ChangeSpec := { name := "manifestMakes", fn := fun _ => fun
  | [d1, d2, d3] => { results := [.lit (.bool false)], args := [d1, d2, d3] }
  | _ => none }
def ManifestMakesWrongFalsely : Prop := manifestMakesRow.holds Tryz.pinned (OpenSpec.ofChange manifestMakesWrong)

/-- 'ladinglaw10.ManifestGets': WHATEVER THE INPUT: true; the input reads as it did. -/
def manifestGetsSpec : ChangeSpec := { name := "manifestGets", fn := fun _ => fun
  | [d] => { results := [.lit (.bool true)], args := [d] }
  | _ => none }
def manifestGetsRow : OpenClaim := { program := "ytjokfllldcjheaagreatdoor", sum := "152cf7273ebf9989f0d01b16cb460f706f040e34825b298db34f49b601e4c824", func := "lading/ladinglaw10.ManifestGets", spec := "manifestGets", inPlace := ["internal/abi.NoEscape", "internal/bytealg.MakeNoZero", "internal/reflectlite.ValueOf", "(internal/reflectlite.Value).Type", "(internal/reflectlite.Value).IsNil", "internal/reflectlite.TypeOf", "(internal/reflectlite.Value).Elem", "(internal/reflectlite.Value).Set"], unfollowed := true, recurses := true, named := ["errors.errorType"], plainKeys := false, apart := false, laid := [("errors.errorType", laid_errors_errorType)] }
def ManifestGetsSaid : Prop := manifestGetsRow.holds Tryz.pinned (OpenSpec.ofChange manifestGetsSpec)

/-- ITS FALSE NEIGHBOUR: 'it returns false'. Refute it at one input. -/
def manifestGetsWrong : ChangeSpec := { name := "manifestGets", fn := fun _ => fun
  | [d] => { results := [.lit (.bool false)], args := [d] }
  | _ => none }
def ManifestGetsWrongFalsely : Prop := manifestGetsRow.holds Tryz.pinned (OpenSpec.ofChange manifestGetsWrong)

/- THE SECOND FORM. 'bulk': how many values and letters a reading holds, each counted each time it is reached (what is shared counts as often as it is met; a slice's spare places count too). A statement '..UptoSaid' is the law's where the arguments, and the package variables that the reading takes, are together of bulk at most 1048576: NARROWER than '..Said'. Prove '..Said' where nothing that the law and all that it calls make is longer than what came in: it says more and counts as full. Else prove '..UptoSaid'. A law counts once. -/
mutual
def uptoBulk {H : Type} : DataW H → Nat
  | .lit (.string bytes) => bytes.length + 1
  | .lit _ => 1
  | .nil => 1
  | .ptr d => uptoBulk d + 1
  | .slice elems spare => uptoBulkAll elems + uptoBulkAll spare + 1
  | .agg parts => uptoBulkAll parts + 1
  | .iface _ d => uptoBulk d + 1
  | .map entries => uptoBulkEntries entries + 1
  | .held _ => 1
def uptoBulkAll {H : Type} : List (DataW H) → Nat
  | [] => 0
  | d :: r => uptoBulk d + uptoBulkAll r
def uptoBulkEntries {H : Type} : List (Lit × DataW H) → Nat
  | [] => 0
  | x :: r => uptoBulkEntry x + uptoBulkEntries r
def uptoBulkEntry {H : Type} : Lit × DataW H → Nat
  | (.string bytes, d) => bytes.length + uptoBulk d + 1
  | (_, d) => uptoBulk d + 1
 end
def uptoSmall : (H : Type) → List (DataW H) → Bool := fun _ ds => decide (uptoBulkAll ds ≤ 1048576)
def OpenSpec.upto (s : _root_.Go.ChangeSpec) : _root_.Go.OpenSpec := { _root_.Go.OpenSpec.ofChange s with cond := some uptoSmall }

/-- 'ladinglaw07.ShardSplits', WHERE WHAT IT READS IS OF BULK AT MOST 1048576: true; the input reads as it did. -/
def shardSplitsUptoRow : OpenClaim := { program := "ytjokfllldcjheaagreatdoor", sum := "152cf7273ebf9989f0d01b16cb460f706f040e34825b298db34f49b601e4c824", func := "lading/ladinglaw07.ShardSplits", spec := "shardSplits", inPlace := ["internal/abi.NoEscape", "internal/reflectlite.ValueOf", "(internal/reflectlite.Value).Type", "(internal/reflectlite.Value).IsNil", "internal/reflectlite.TypeOf", "(internal/reflectlite.Value).Elem", "(internal/reflectlite.Value).Set"], unfollowed := true, recurses := true, named := ["errors.errorType"], plainKeys := false, apart := false, laid := [("errors.errorType", laid_errors_errorType)], narrowed := true }
def ShardSplitsUptoSaid : Prop := shardSplitsUptoRow.holds Tryz.pinned (OpenSpec.upto shardSplitsSpec)

/-- 'ladinglaw07.ShardPuts', WHERE WHAT IT READS IS OF BULK AT MOST 1048576: true; the input reads as it did. -/
def shardPutsUptoRow : OpenClaim := { program := "ytjokfllldcjheaagreatdoor", sum := "152cf7273ebf9989f0d01b16cb460f706f040e34825b298db34f49b601e4c824", func := "lading/ladinglaw07.ShardPuts", spec := "shardPuts", inPlace := ["internal/abi.NoEscape", "internal/reflectlite.ValueOf", "(internal/reflectlite.Value).Type", "(internal/reflectlite.Value).IsNil", "internal/reflectlite.TypeOf", "(internal/reflectlite.Value).Elem", "(internal/reflectlite.Value).Set"], unfollowed := true, recurses := true, named := ["errors.errorType"], plainKeys := false, apart := false, laid := [("errors.errorType", laid_errors_errorType)], narrowed := true }
def ShardPutsUptoSaid : Prop := shardPutsUptoRow.holds Tryz.pinned (OpenSpec.upto shardPutsSpec)

/-- 'ladinglaw07.ShardGets', WHERE WHAT IT READS IS OF BULK AT MOST 1048576: true; the input reads as it did. -/
def shardGetsUptoRow : OpenClaim := { program := "ytjokfllldcjheaagreatdoor", sum := "152cf7273ebf9989f0d01b16cb460f706f040e34825b298db34f49b601e4c824", func := "lading/ladinglaw07.ShardGets", spec := "shardGets", inPlace := ["internal/abi.NoEscape", "internal/reflectlite.ValueOf", "(internal/reflectlite.Value).Type", "(internal/reflectlite.Value).IsNil", "internal/reflectlite.TypeOf", "(internal/reflectlite.Value).Elem", "(internal/reflectlite.Value).Set"], unfollowed := true, recurses := true, named := ["errors.errorType"], plainKeys := false, apart := false, laid := [("errors.errorType", laid_errors_errorType)], narrowed := true }
def ShardGetsUptoSaid : Prop := shardGetsUptoRow.holds Tryz.pinned (OpenSpec.upto shardGetsSpec)

/-- 'ladinglaw10.ManifestVersions', WHERE WHAT IT READS IS OF BULK AT MOST 1048576: true; the input reads as it did. -/
def manifestVersionsUptoRow : OpenClaim := { program := "ytjokfllldcjheaagreatdoor", sum := "152cf7273ebf9989f0d01b16cb460f706f040e34825b298db34f49b601e4c824", func := "lading/ladinglaw10.ManifestVersions", spec := "manifestVersions", inPlace := ["internal/abi.NoEscape", "internal/bytealg.MakeNoZero", "internal/reflectlite.ValueOf", "(internal/reflectlite.Value).Type", "(internal/reflectlite.Value).IsNil", "internal/reflectlite.TypeOf", "(internal/reflectlite.Value).Elem", "(internal/reflectlite.Value).Set"], unfollowed := true, recurses := true, named := ["errors.errorType"], plainKeys := false, apart := false, laid := [("errors.errorType", laid_errors_errorType)], narrowed := true }
def ManifestVersionsUptoSaid : Prop := manifestVersionsUptoRow.holds Tryz.pinned (OpenSpec.upto manifestVersionsSpec)

/-- 'ladinglaw10.ManifestMakes', WHERE WHAT IT READS IS OF BULK AT MOST 1048576: true; the input reads as it did. -/
def manifestMakesUptoRow : OpenClaim := { program := "ytjokfllldcjheaagreatdoor", sum := "152cf7273ebf9989f0d01b16cb460f706f040e34825b298db34f49b601e4c824", func := "lading/ladinglaw10.ManifestMakes", spec := "manifestMakes", inPlace := ["internal/abi.NoEscape", "internal/bytealg.MakeNoZero", "internal/reflectlite.ValueOf", "(internal/reflectlite.Value).Type", "(internal/reflectlite.Value).IsNil", "internal/reflectlite.TypeOf", "(internal/reflectlite.Value).Elem", "(internal/reflectlite.Value).Set"], unfollowed := true, recurses := true, named := ["errors.errorType"], plainKeys := false, apart := false, laid := [("errors.errorType", laid_errors_errorType)], narrowed := true }
def ManifestMakesUptoSaid : Prop := manifestMakesUptoRow.holds Tryz.pinned (OpenSpec.upto manifestMakesSpec)

/-- 'ladinglaw10.ManifestGets', WHERE WHAT IT READS IS OF BULK AT MOST 1048576: true; the input reads as it did. -/
def manifestGetsUptoRow : OpenClaim := { program := "ytjokfllldcjheaagreatdoor", sum := "152cf7273ebf9989f0d01b16cb460f706f040e34825b298db34f49b601e4c824", func := "lading/ladinglaw10.ManifestGets", spec := "manifestGets", inPlace := ["internal/abi.NoEscape", "internal/bytealg.MakeNoZero", "internal/reflectlite.ValueOf", "(internal/reflectlite.Value).Type", "(internal/reflectlite.Value).IsNil", "internal/reflectlite.TypeOf", "(internal/reflectlite.Value).Elem", "(internal/reflectlite.Value).Set"], unfollowed := true, recurses := true, named := ["errors.errorType"], plainKeys := false, apart := false, laid := [("errors.errorType", laid_errors_errorType)], narrowed := true }
def ManifestGetsUptoSaid : Prop := manifestGetsUptoRow.holds Tryz.pinned (OpenSpec.upto manifestGetsSpec)

end Rows
end Go.Proofs.YtjokfllldcjheaaGreatDoor
