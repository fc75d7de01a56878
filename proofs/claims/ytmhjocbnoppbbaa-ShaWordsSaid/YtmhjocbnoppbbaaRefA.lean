/- Walks of ladingref02, part A: printed by the kit's print.sh for this seat, then turned by hand where the print did not build. -/
import Derived.Test.YtmhjocbnoppbbaaProg
import Derived.Below
import Derived.Deep.Draws
import Derived.Deep.AppendLies
import Derived.Maps.AppendAt
import Derived.OwnWalk
import Derived.Laws.BytesArg
import Derived.Laws.MakeOwn
import Derived.Laws.OwnMore
import Derived.Deep.OwnRows
import Derived.Tactics
import Derived.Lib.ConvBytes
import Derived.Laws.Slices
import Derived.WalkKit
import Derived.KernelRfl
import Derived.RowKit3
import Derived.Deep.LoopGhost
import Derived.Deep.QuietTactic
import Derived.BigQuiet
import Derived.WideLaws
import Derived.Deep.DeepCutAuto
import Derived.Deep.CutBlock
import Derived.Deep.RegionHeld3
import Derived.Laws.Rows
import Derived.Lib.AppendStr
import Derived.ArgAppend
import Derived.Laws.IdiomCopy
import Derived.OrdersHeld
import Derived.Laws.BitsLemmas
import Derived.RowKit
import Derived.Test.YtmhjocbnoppbbaaWWords
import Derived.Test.YtmhjocbnoppbbaaWLast
import Derived.Test.YtmhjocbnoppbbaaWTab
import Derived.Test.YtmhjocbnoppbbaaWFour
import Derived.Test.YtmhjocbnoppbbaaWQPut
import Derived.Test.YtmhjocbnoppbbaaWApart
import Derived.Test.YtmhjocbnoppbbaaWArr
import Derived.Test.YtmhjocbnoppbbaaWZeros
import Derived.Test.YtmhjocbnoppbbaaWFoot
import Derived.Test.YtmhjocbnoppbbaaWKept
import Derived.Test.YtmhjocbnoppbbaaWShare
import Derived.Test.YtmhjocbnoppbbaaWN
import Derived.Test.YtmhjocbnoppbbaaWFootNe
import Derived.Test.YtmhjocbnoppbbaaWAt
import Derived.Test.YtmhjocbnoppbbaaWEqStruct
import Derived.Test.YtmhjocbnoppbbaaWRepsOne
import Derived.Test.YtmhjocbnoppbbaaWInv
import Derived.Test.YtmhjocbnoppbbaaWInvWords
import Derived.Test.YtmhjocbnoppbbaaWGuard
import Derived.Test.YtmhjocbnoppbbaaWNEv
import Derived.Test.YtmhjocbnoppbbaaWMore
namespace Go.Proofs.Ytmhjocbnoppbbaa.Ref
open Go.RowKit Go.Proofs.YtmhjocbnoppbbaaW.PrintWords Go.Proofs.YtmhjocbnoppbbaaW.PrintLast Go.Proofs.YtmhjocbnoppbbaaW.PrintMore
attribute [local go_sem] max2_int min2_int max_two min_two max_three min_three max_four min_four   -- for this text's walks alone
set_option linter.unusedVariables false
set_option linter.unusedSimpArgs false



def errW : Option Int → Value
  | none => .nilIface
  | some c => .iface 0 (.int .i64 c)
theorem errW_none : errW none = .nilIface := rfl
theorem errW_some (c : Int) : errW (some c) = .iface 0 (.int .i64 c) := rfl

theorem info3 : (Try.prog.info? 3).map (fun i => (i.zero, i.size, i.bytes)) = some (some (.int .i64 0), 1, 8) := by kernel_rfl
theorem info5 : (Try.prog.info? 5).map (fun i => (i.zero, i.size, i.bytes)) = some (some (.int .u8 0), 1, 1) := by kernel_rfl
-- the values' own types

end Go.Proofs.Ytmhjocbnoppbbaa.Ref
