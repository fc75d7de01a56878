/-
  NARROWER THAN 'FOR EVERY INPUT', by the rows' own cells (each row's printed sentence says how): EdgesNorm: laid · AskSearches: laid · CsrRows: laid · CsrTurns: laid · AskTurned: laid · AskPaths: laid.
  DERIVED. THE GIVEN ROWS OF THIS SEAT. 6 by the template 'for every input the law returns true; each argument reads behind the call as it read before'; 0 by the template 'total and deterministic' (their statements: YthnpaiobjmneaaaDoorTotals.lean).
  GIVEN WITH THE SEED: the statements are not yours to turn. If you find one false, say at which input.
  Laid BY PROGRAM, IN A SANDBOX (cutbox-rows.mjs): the forced cells as the released guide's own fill.sh prints them over the translation 501761c75ba0e16f… (all of the seat's roots in one cut). By AI agents, Wed Nov 11 2026. No macro, syntax, notation, axiom, sorry.
-/
import Derived.Test.YthnpaiobjmneaaaDoorChecked
import GoSem.Claim
import GoSem.ClaimJoined
import GoSem.ClaimMapViews
import Derived.JoinedTies
import Derived.KernelRfl
namespace Go.Proofs.YthnpaiobjmneaaaDoor
/- THE CELL 'sum', in the pinned program and in every row, IS THE sha256 OF THE DUMP (.gsa) THAT YthnpaiobjmneaaaDoorProg.lean LOADS. Nothing in Lean hashes anything: it is a label: what it is worth is what the hold of that sum in a sandbox is worth. -/
noncomputable def Tryd.pinned : Pinned := { name := "ythnpaiobjmneaaadoor", sum := "501761c75ba0e16f81f7d772b53922cd7144d6d934081960e69385c274d0dc3a", checked := Tryd.checked }
namespace Rows
def none {H : Type} : Left H := { results := [], args := [] }

/- WHAT THE LISTED PACKAGE-LEVEL VARIABLES READ AS WHEN THE CALL BEGINS. Each datum BY PROGRAM (the guide's laid-datum.mjs) off the statement by which the dump's own 'gosem.cut.vars' lays the variable. In a bare row this is a premise. The card (YthnpaiobjmneaaaDoorCards.lean) ties it to the program's text. -/
def laid_errors_errorType {H : Type} : DataW H := .iface "internal/reflectlite.rtype" (.agg [.ptr (.lit (.string [101, 114, 114, 111, 114]))])

/-- 'ladinglaw04.EdgesNorm': WHATEVER THE INPUT: true; the input reads as it did. -/
def edgesNormSpec : ChangeSpec := { name := "edgesNorm", fn := fun _ => fun
  | [d1, d2, d3] => { results := [.lit (.bool true)], args := [d1, d2, d3] }
  | _ => none }
def edgesNormRow : OpenClaim := { program := "ythnpaiobjmneaaadoor", sum := "501761c75ba0e16f81f7d772b53922cd7144d6d934081960e69385c274d0dc3a", func := "lading/ladinglaw04.EdgesNorm", spec := "edgesNorm", inPlace := ["internal/reflectlite.ValueOf", "(internal/reflectlite.Value).Type", "(internal/reflectlite.Value).IsNil", "internal/reflectlite.TypeOf", "(internal/reflectlite.Value).Elem", "(internal/reflectlite.Value).Set"], unfollowed := true, recurses := true, named := ["errors.errorType"], apart := false, laid := [("errors.errorType", laid_errors_errorType)] }
def EdgesNormSaid : Prop := edgesNormRow.holds Tryd.pinned (OpenSpec.ofChange edgesNormSpec)

/-- ITS FALSE NEIGHBOUR: 'it returns false'. Refute it at one input. -/
def edgesNormWrong : ChangeSpec := { name := "edgesNorm", fn := fun _ => fun
  | [d1, d2, d3] => { results := [.lit (.bool false)], args := [d1, d2, d3] }
  | _ => none }
def EdgesNormWrongFalsely : Prop := edgesNormRow.holds Tryd.pinned (OpenSpec.ofChange edgesNormWrong)

/-- 'ladinglaw11.AskSearches': WHATEVER THE INPUT: true; the input reads as it did. -/
def askSearchesSpec : ChangeSpec := { name := "askSearches", fn := fun _ => fun
  | [d1, d2, d3] => { results := [.lit (.bool true)], args := [d1, d2, d3] }
  | _ => none }
def askSearchesRow : OpenClaim := { program := "ythnpaiobjmneaaadoor", sum := "501761c75ba0e16f81f7d772b53922cd7144d6d934081960e69385c274d0dc3a", func := "lading/ladinglaw11.AskSearches", spec := "askSearches", inPlace := ["internal/reflectlite.ValueOf", "(internal/reflectlite.Value).Type", "(internal/reflectlite.Value).IsNil", "internal/reflectlite.TypeOf", "(internal/reflectlite.Value).Elem", "(internal/reflectlite.Value).Set"], unfollowed := true, recurses := true, named := ["errors.errorType"], apart := false, laid := [("errors.errorType", laid_errors_errorType)] }
def AskSearchesSaid : Prop := askSearchesRow.holds Tryd.pinned (OpenSpec.ofChange askSearchesSpec)

/-- ITS FALSE NEIGHBOUR: 'it returns false'. Refute it at one input. -/
def askSearchesWrong : ChangeSpec := { name := "askSearches", fn := fun _ => fun
  | [d1, d2, d3] => { results := [.lit (.bool false)], args := [d1, d2, d3] }
  | _ => none }
def AskSearchesWrongFalsely : Prop := askSearchesRow.holds Tryd.pinned (OpenSpec.ofChange askSearchesWrong)

/-- 'ladinglaw05.CsrRows': WHATEVER THE INPUT: true; the input reads as it did. -/
def csrRowsSpec : ChangeSpec := { name := "csrRows", fn := fun _ => fun
  | [d1, d2, d3] => { results := [.lit (.bool true)], args := [d1, d2, d3] }
  | _ => none }
def csrRowsRow : OpenClaim := { program := "ythnpaiobjmneaaadoor", sum := "501761c75ba0e16f81f7d772b53922cd7144d6d934081960e69385c274d0dc3a", func := "lading/ladinglaw05.CsrRows", spec := "csrRows", inPlace := ["internal/reflectlite.ValueOf", "(internal/reflectlite.Value).Type", "(internal/reflectlite.Value).IsNil", "internal/reflectlite.TypeOf", "(internal/reflectlite.Value).Elem", "(internal/reflectlite.Value).Set"], unfollowed := true, recurses := true, named := ["errors.errorType"], apart := false, laid := [("errors.errorType", laid_errors_errorType)] }
def CsrRowsSaid : Prop := csrRowsRow.holds Tryd.pinned (OpenSpec.ofChange csrRowsSpec)

/-- ITS FALSE NEIGHBOUR: 'it returns false'. Refute it at one input. -/
def csrRowsWrong : ChangeSpec := { name := "csrRows", fn := fun _ => fun
  | [d1, d2, d3] => { results := [.lit (.bool false)], args := [d1, d2, d3] }
  | _ => none }
def CsrRowsWrongFalsely : Prop := csrRowsRow.holds Tryd.pinned (OpenSpec.ofChange csrRowsWrong)

/-- 'ladinglaw05.CsrTurns': WHATEVER THE INPUT: true; the input reads as it did. -/
def csrTurnsSpec : ChangeSpec := { name := "csrTurns", fn := fun _ => fun
  | [d1, d2, d3] => { results := [.lit (.bool true)], args := [d1, d2, d3] }
  | _ => none }
def csrTurnsRow : OpenClaim := { program := "ythnpaiobjmneaaadoor", sum := "501761c75ba0e16f81f7d772b53922cd7144d6d934081960e69385c274d0dc3a", func := "lading/ladinglaw05.CsrTurns", spec := "csrTurns", inPlace := ["internal/reflectlite.ValueOf", "(internal/reflectlite.Value).Type", "(internal/reflectlite.Value).IsNil", "internal/reflectlite.TypeOf", "(internal/reflectlite.Value).Elem", "(internal/reflectlite.Value).Set"], unfollowed := true, recurses := true, named := ["errors.errorType"], apart := false, laid := [("errors.errorType", laid_errors_errorType)] }
def CsrTurnsSaid : Prop := csrTurnsRow.holds Tryd.pinned (OpenSpec.ofChange csrTurnsSpec)

/-- ITS FALSE NEIGHBOUR: 'it returns false'. Refute it at one input. -/
def csrTurnsWrong : ChangeSpec := { name := "csrTurns", fn := fun _ => fun
  | [d1, d2, d3] => { results := [.lit (.bool false)], args := [d1, d2, d3] }
  | _ => none }
def CsrTurnsWrongFalsely : Prop := csrTurnsRow.holds Tryd.pinned (OpenSpec.ofChange csrTurnsWrong)

/-- 'ladinglaw11.AskTurned': WHATEVER THE INPUT: true; the input reads as it did. -/
def askTurnedSpec : ChangeSpec := { name := "askTurned", fn := fun _ => fun
  | [d1, d2, d3] => { results := [.lit (.bool true)], args := [d1, d2, d3] }
  | _ => none }
def askTurnedRow : OpenClaim := { program := "ythnpaiobjmneaaadoor", sum := "501761c75ba0e16f81f7d772b53922cd7144d6d934081960e69385c274d0dc3a", func := "lading/ladinglaw11.AskTurned", spec := "askTurned", inPlace := ["internal/reflectlite.ValueOf", "(internal/reflectlite.Value).Type", "(internal/reflectlite.Value).IsNil", "internal/reflectlite.TypeOf", "(internal/reflectlite.Value).Elem", "(internal/reflectlite.Value).Set"], unfollowed := true, recurses := true, named := ["errors.errorType"], apart := false, laid := [("errors.errorType", laid_errors_errorType)] }
def AskTurnedSaid : Prop := askTurnedRow.holds Tryd.pinned (OpenSpec.ofChange askTurnedSpec)

/-- ITS FALSE NEIGHBOUR: 'it returns false'. Refute it at one input. -/
def askTurnedWrong : ChangeSpec := { name := "askTurned", fn := fun _ => fun
  | [d1, d2, d3] => { results := [.lit (.bool false)], args := [d1, d2, d3] }
  | _ => none }
def AskTurnedWrongFalsely : Prop := askTurnedRow.holds Tryd.pinned (OpenSpec.ofChange askTurnedWrong)

/-- 'ladinglaw11.AskPaths': WHATEVER THE INPUT: true; the input reads as it did. -/
def askPathsSpec : ChangeSpec := { name := "askPaths", fn := fun _ => fun
  | [d1, d2, d3] => { results := [.lit (.bool true)], args := [d1, d2, d3] }
  | _ => none }
def askPathsRow : OpenClaim := { program := "ythnpaiobjmneaaadoor", sum := "501761c75ba0e16f81f7d772b53922cd7144d6d934081960e69385c274d0dc3a", func := "lading/ladinglaw11.AskPaths", spec := "askPaths", inPlace := ["internal/reflectlite.ValueOf", "(internal/reflectlite.Value).Type", "(internal/reflectlite.Value).IsNil", "internal/reflectlite.TypeOf", "(internal/reflectlite.Value).Elem", "(internal/reflectlite.Value).Set"], unfollowed := true, recurses := true, named := ["errors.errorType"], apart := false, laid := [("errors.errorType", laid_errors_errorType)] }
def AskPathsSaid : Prop := askPathsRow.holds Tryd.pinned (OpenSpec.ofChange askPathsSpec)

/-- ITS FALSE NEIGHBOUR: 'it returns false'. Refute it at one input. -/
def askPathsWrong : ChangeSpec := { name := "askPaths", fn := fun _ => fun
  | [d1, d2, d3] => { results := [.lit (.bool false)], args := [d1, d2, d3] }
  | _ => none }
def AskPathsWrongFalsely : Prop := askPathsRow.holds Tryd.pinned (OpenSpec.ofChange askPathsWrong)

/- THE SECOND FORM. 'bulk': how many values and letters a reading holds, each counted each time it is reached (what is shared counts as often as it is met; a slice's spare places count too). A statement '..UptoSaid' is the law's where the arguments, and the package variables that the reading takes, are together of bulk at most 1048576: NARROWER than '..Said'. Prove '..Said' where nothing that the law and all that it calls make is longer than what came in: it says more and counts as full. Else prove '..UptoSaid'. A law counts once. -/
mutual
def uptoBulk {H : Type} : DataW H → Nat
  | .lit (.string bytes) => bytes.length + 1
  | .lit _ => 1
  | .nil => 1
  | .ptr d => uptoBulk d + 1
  | .slice elems spare => uptoBulkAll elems + uptoBulkAll spare + 1
  | .agg parts => uptoBulkAll parts + 1
  | .iface _ d => uptoBulk d + 1
  | .map entries => uptoBulkEntries entries + 1
  | .held _ => 1
def uptoBulkAll {H : Type} : List (DataW H) → Nat
  | [] => 0
  | d :: r => uptoBulk d + uptoBulkAll r
def uptoBulkEntries {H : Type} : List (Lit × DataW H) → Nat
  | [] => 0
  | x :: r => uptoBulkEntry x + uptoBulkEntries r
def uptoBulkEntry {H : Type} : Lit × DataW H → Nat
  | (.string bytes, d) => bytes.length + uptoBulk d + 1
  | (_, d) => uptoBulk d + 1
 end
def uptoSmall : (H : Type) → List (DataW H) → Bool := fun _ ds => decide (uptoBulkAll ds ≤ 1048576)
def OpenSpec.upto (s : _root_.Go.ChangeSpec) : _root_.Go.OpenSpec := { _root_.Go.OpenSpec.ofChange s with cond := some uptoSmall }

/-- 'ladinglaw04.EdgesNorm', WHERE WHAT IT READS IS OF BULK AT MOST 1048576: true; the input reads as it did. -/
def edgesNormUptoRow : OpenClaim := { program := "ythnpaiobjmneaaadoor", sum := "501761c75ba0e16f81f7d772b53922cd7144d6d934081960e69385c274d0dc3a", func := "lading/ladinglaw04.EdgesNorm", spec := "edgesNorm", inPlace := ["internal/reflectlite.ValueOf", "(internal/reflectlite.Value).Type", "(internal/reflectlite.Value).IsNil", "internal/reflectlite.TypeOf", "(internal/reflectlite.Value).Elem", "(internal/reflectlite.Value).Set"], unfollowed := true, recurses := true, named := ["errors.errorType"], apart := false, laid := [("errors.errorType", laid_errors_errorType)], narrowed := true }
def EdgesNormUptoSaid : Prop := edgesNormUptoRow.holds Tryd.pinned (OpenSpec.upto edgesNormSpec)

/-- 'ladinglaw11.AskSearches', WHERE WHAT IT READS IS OF BULK AT MOST 1048576: true; the input reads as it did. -/
def askSearchesUptoRow : OpenClaim := { program := "ythnpaiobjmneaaadoor", sum := "501761c75ba0e16f81f7d772b53922cd7144d6d934081960e69385c274d0dc3a", func := "lading/ladinglaw11.AskSearches", spec := "askSearches", inPlace := ["internal/reflectlite.ValueOf", "(internal/reflectlite.Value).Type", "(internal/reflectlite.Value).IsNil", "internal/reflectlite.TypeOf", "(internal/reflectlite.Value).Elem", "(internal/reflectlite.Value).Set"], unfollowed := true, recurses := true, named := ["errors.errorType"], apart := false, laid := [("errors.errorType", laid_errors_errorType)], narrowed := true }
def AskSearchesUptoSaid : Prop := askSearchesUptoRow.holds Tryd.pinned (OpenSpec.upto askSearchesSpec)

/-- 'ladinglaw05.CsrRows', WHERE WHAT IT READS IS OF BULK AT MOST 1048576: true; the input reads as it did. -/
def csrRowsUptoRow : OpenClaim := { program := "ythnpaiobjmneaaadoor", sum := "501761c75ba0e16f81f7d772b53922cd7144d6d934081960e69385c274d0dc3a", func := "lading/ladinglaw05.CsrRows", spec := "csrRows", inPlace := ["internal/reflectlite.ValueOf", "(internal/reflectlite.Value).Type", "(internal/reflectlite.Value).IsNil", "internal/reflectlite.TypeOf", "(internal/reflectlite.Value).Elem", "(internal/reflectlite.Value).Set"], unfollowed := true, recurses := true, named := ["errors.errorType"], apart := false, laid := [("errors.errorType", laid_errors_errorType)], narrowed := true }
def CsrRowsUptoSaid : Prop := csrRowsUptoRow.holds Tryd.pinned (OpenSpec.upto csrRowsSpec)

/-- 'ladinglaw05.CsrTurns', WHERE WHAT IT READS IS OF BULK AT MOST 1048576: true; the input reads as it did. -/
def csrTurnsUptoRow : OpenClaim := { program := "ythnpaiobjmneaaadoor", sum := "501761c75ba0e16f81f7d772b53922cd7144d6d934081960e69385c274d0dc3a", func := "lading/ladinglaw05.CsrTurns", spec := "csrTurns", inPlace := ["internal/reflectlite.ValueOf", "(internal/reflectlite.Value).Type", "(internal/reflectlite.Value).IsNil", "internal/reflectlite.TypeOf", "(internal/reflectlite.Value).Elem", "(internal/reflectlite.Value).Set"], unfollowed := true, recurses := true, named := ["errors.errorType"], apart := false, laid := [("errors.errorType", laid_errors_errorType)], narrowed := true }
def CsrTurnsUptoSaid : Prop := csrTurnsUptoRow.holds Tryd.pinned (OpenSpec.upto csrTurnsSpec)

/-- 'ladinglaw11.AskTurned', WHERE WHAT IT READS IS OF BULK AT MOST 1048576: true; the input reads as it did. -/
def askTurnedUptoRow : OpenClaim := { program := "ythnpaiobjmneaaadoor", sum := "501761c75ba0e16f81f7d772b53922cd7144d6d934081960e69385c274d0dc3a", func := "lading/ladinglaw11.AskTurned", spec := "askTurned", inPlace := ["internal/reflectlite.ValueOf", "(internal/reflectlite.Value).Type", "(internal/reflectlite.Value).IsNil", "internal/reflectlite.TypeOf", "(internal/reflectlite.Value).Elem", "(internal/reflectlite.Value).Set"], unfollowed := true, recurses := true, named := ["errors.errorType"], apart := false, laid := [("errors.errorType", laid_errors_errorType)], narrowed := true }
def AskTurnedUptoSaid : Prop := askTurnedUptoRow.holds Tryd.pinned (OpenSpec.upto askTurnedSpec)

/-- 'ladinglaw11.AskPaths', WHERE WHAT IT READS IS OF BULK AT MOST 1048576: true; the input reads as it did. -/
def askPathsUptoRow : OpenClaim := { program := "ythnpaiobjmneaaadoor", sum := "501761c75ba0e16f81f7d772b53922cd7144d6d934081960e69385c274d0dc3a", func := "lading/ladinglaw11.AskPaths", spec := "askPaths", inPlace := ["internal/reflectlite.ValueOf", "(internal/reflectlite.Value).Type", "(internal/reflectlite.Value).IsNil", "internal/reflectlite.TypeOf", "(internal/reflectlite.Value).Elem", "(internal/reflectlite.Value).Set"], unfollowed := true, recurses := true, named := ["errors.errorType"], apart := false, laid := [("errors.errorType", laid_errors_errorType)], narrowed := true }
def AskPathsUptoSaid : Prop := askPathsUptoRow.holds Tryd.pinned (OpenSpec.upto askPathsSpec)

end Rows
end Go.Proofs.YthnpaiobjmneaaaDoor
