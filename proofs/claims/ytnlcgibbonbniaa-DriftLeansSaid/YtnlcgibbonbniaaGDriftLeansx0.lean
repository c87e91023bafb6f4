-- Printed by a program of this session's own (the kit's print, patched: wip/scripts/patch.py), for this claim. Not trusted: Lean checks it.
import Derived.Test.YtnlcgibbonbniaaProg
import Derived.Below
import Derived.Deep.Draws
import Derived.Deep.AppendLies
import Derived.Maps.AppendAt
import Derived.OwnWalk
import Derived.Laws.BytesArg
import Derived.Laws.MakeOwn
import Derived.Laws.OwnMore
import Derived.Deep.OwnRows
import Derived.Tactics
import Derived.Lib.ConvBytes
import Derived.Laws.Slices
import Derived.WalkKit
import Derived.KernelRfl
import Derived.RowKit3
import Derived.Deep.LoopGhost
import Derived.Deep.QuietTactic
import Derived.BigQuiet
import Derived.WideLaws
import Derived.Deep.DeepCutAuto
import Derived.Deep.CutBlock
import Derived.Deep.RegionHeld3
import Derived.Laws.Rows
import Derived.Lib.AppendStr
import Derived.ArgAppend
import Derived.Laws.IdiomCopy
import Derived.OrdersHeld
import Derived.Laws.BitsLemmas
import Derived.RowKit
import Derived.Test.YtnlcgibbonbniaaCx
import Derived.Test.YtnlcgibbonbniaaWWords
import Derived.Test.YtnlcgibbonbniaaWLast
import Derived.Test.YtnlcgibbonbniaaWTab
import Derived.Test.YtnlcgibbonbniaaWFour
import Derived.Test.YtnlcgibbonbniaaWQPut
import Derived.Test.YtnlcgibbonbniaaWApart
import Derived.Test.YtnlcgibbonbniaaWArr
import Derived.Test.YtnlcgibbonbniaaWZeros
import Derived.Test.YtnlcgibbonbniaaWFoot
import Derived.Test.YtnlcgibbonbniaaWKept
import Derived.Test.YtnlcgibbonbniaaWShare
import Derived.Test.YtnlcgibbonbniaaWN
import Derived.Test.YtnlcgibbonbniaaWFootNe
import Derived.Test.YtnlcgibbonbniaaWAt
import Derived.Test.YtnlcgibbonbniaaWEqStruct
import Derived.Test.YtnlcgibbonbniaaWRepsOne
import Derived.Test.YtnlcgibbonbniaaWInv
import Derived.Test.YtnlcgibbonbniaaWInvWords
import Derived.Test.YtnlcgibbonbniaaWGuard
import Derived.Test.YtnlcgibbonbniaaWNEv
import Derived.Test.YtnlcgibbonbniaaWMore
namespace Go.Proofs.Ytnlcgibbonbniaa.GDriftLeans
open Go.RowKit Go.Proofs.YtnlcgibbonbniaaW.PrintWords Go.Proofs.YtnlcgibbonbniaaW.PrintLast Go.Proofs.YtnlcgibbonbniaaW.PrintMore
attribute [local go_sem] max2_int min2_int max_two min_two max_three min_three max_four min_four   -- for this text's walks alone
set_option linter.unusedVariables false
set_option linter.unusedSimpArgs false



def errW : Option Int → Value
  | none => .nilIface
  | some c => .iface 0 (.int .i64 c)
theorem errW_none : errW none = .nilIface := rfl
theorem errW_some (c : Int) : errW (some c) = .iface 0 (.int .i64 c) := rfl

-- the values' own types

end Go.Proofs.Ytnlcgibbonbniaa.GDriftLeans
