-- Printed by a program of this session's own (the kit's print, patched: wip/scripts/patch.py), for this claim. Not trusted: Lean checks it.
import Derived.Test.YtpphoifjhhidfaaProg
import Derived.Below
import Derived.Deep.Draws
import Derived.Deep.AppendLies
import Derived.Maps.AppendAt
import Derived.OwnWalk
import Derived.Laws.BytesArg
import Derived.Laws.MakeOwn
import Derived.Laws.OwnMore
import Derived.Deep.OwnRows
import Derived.Tactics
import Derived.Lib.ConvBytes
import Derived.Laws.Slices
import Derived.WalkKit
import Derived.KernelRfl
import Derived.RowKit3
import Derived.Deep.LoopGhost
import Derived.Deep.QuietTactic
import Derived.BigQuiet
import Derived.WideLaws
import Derived.Deep.DeepCutAuto
import Derived.Deep.CutBlock
import Derived.Deep.RegionHeld3
import Derived.Laws.Rows
import Derived.Lib.AppendStr
import Derived.ArgAppend
import Derived.Laws.IdiomCopy
import Derived.OrdersHeld
import Derived.Laws.BitsLemmas
import Derived.RowKit
import Derived.Test.YtpphoifjhhidfaaOf
import Derived.Test.YtpphoifjhhidfaaWWords
import Derived.Test.YtpphoifjhhidfaaWLast
import Derived.Test.YtpphoifjhhidfaaWTab
import Derived.Test.YtpphoifjhhidfaaWFour
import Derived.Test.YtpphoifjhhidfaaWQPut
import Derived.Test.YtpphoifjhhidfaaWApart
import Derived.Test.YtpphoifjhhidfaaWArr
import Derived.Test.YtpphoifjhhidfaaWZeros
import Derived.Test.YtpphoifjhhidfaaWFoot
import Derived.Test.YtpphoifjhhidfaaWKept
import Derived.Test.YtpphoifjhhidfaaWShare
import Derived.Test.YtpphoifjhhidfaaWN
import Derived.Test.YtpphoifjhhidfaaWFootNe
import Derived.Test.YtpphoifjhhidfaaWAt
import Derived.Test.YtpphoifjhhidfaaWEqStruct
import Derived.Test.YtpphoifjhhidfaaWRepsOne
import Derived.Test.YtpphoifjhhidfaaWInv
import Derived.Test.YtpphoifjhhidfaaWInvWords
import Derived.Test.YtpphoifjhhidfaaWGuard
import Derived.Test.YtpphoifjhhidfaaWNEv
import Derived.Test.YtpphoifjhhidfaaWMore
namespace Go.Proofs.Ytpphoifjhhidfaa.Gshown
open Go.Proofs.Ytpphoifjhhidfaa.Der
open Go.RowKit Go.Proofs.YtpphoifjhhidfaaW.PrintWords Go.Proofs.YtpphoifjhhidfaaW.PrintLast Go.Proofs.YtpphoifjhhidfaaW.PrintMore
attribute [local go_sem] max2_int min2_int max_two min_two max_three min_three max_four min_four   -- for this text's walks alone
set_option linter.unusedVariables false
set_option linter.unusedSimpArgs false



def errW : Option Int → Value
  | none => .nilIface
  | some c => .iface 0 (.int .i64 c)
theorem errW_none : errW none = .nilIface := rfl
theorem errW_some (c : Int) : errW (some c) = .iface 0 (.int .i64 c) := rfl

theorem info5 : (Try.prog.info? 5).map (fun i => (i.zero, i.size, i.bytes)) = some (some (.int .u8 0), 1, 1) := by kernel_rfl
theorem info24 : (Try.prog.info? 24).map (fun i => (i.zero, i.size, i.bytes)) = some (some (.agg #[(.int .i64 0), (.int .i64 0), (.string ⟨#[]⟩), (.int .i64 0), (.slice none 0 0)]), 5, 64) := by kernel_rfl
-- the values' own types

end Go.Proofs.Ytpphoifjhhidfaa.Gshown
