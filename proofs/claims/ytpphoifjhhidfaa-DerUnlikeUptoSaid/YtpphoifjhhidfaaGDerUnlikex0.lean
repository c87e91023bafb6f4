-- Printed by a program of this session's own (the kit's print, patched: wip/scripts/patch.py), for this claim. Not trusted: Lean checks it.
import Derived.Test.YtpphoifjhhidfaaProg
import Derived.Below
import Derived.Deep.Draws
import Derived.Deep.AppendLies
import Derived.Maps.AppendAt
import Derived.OwnWalk
import Derived.Laws.BytesArg
import Derived.Laws.MakeOwn
import Derived.Laws.OwnMore
import Derived.Deep.OwnRows
import Derived.Tactics
import Derived.Lib.ConvBytes
import Derived.Laws.Slices
import Derived.WalkKit
import Derived.KernelRfl
import Derived.RowKit3
import Derived.Deep.LoopGhost
import Derived.Deep.QuietTactic
import Derived.BigQuiet
import Derived.WideLaws
import Derived.Deep.DeepCutAuto
import Derived.Deep.CutBlock
import Derived.Deep.RegionHeld3
import Derived.Laws.Rows
import Derived.Lib.AppendStr
import Derived.ArgAppend
import Derived.Laws.IdiomCopy
import Derived.OrdersHeld
import Derived.Laws.BitsLemmas
import Derived.RowKit
import Derived.Test.YtpphoifjhhidfaaOf
import Derived.Test.YtpphoifjhhidfaaShown
import Derived.Test.YtpphoifjhhidfaaWWords
import Derived.Test.YtpphoifjhhidfaaWLast
import Derived.Test.YtpphoifjhhidfaaWTab
import Derived.Test.YtpphoifjhhidfaaWFour
import Derived.Test.YtpphoifjhhidfaaWQPut
import Derived.Test.YtpphoifjhhidfaaWApart
import Derived.Test.YtpphoifjhhidfaaWArr
import Derived.Test.YtpphoifjhhidfaaWZeros
import Derived.Test.YtpphoifjhhidfaaWFoot
import Derived.Test.YtpphoifjhhidfaaWKept
import Derived.Test.YtpphoifjhhidfaaWShare
import Derived.Test.YtpphoifjhhidfaaWN
import Derived.Test.YtpphoifjhhidfaaWFootNe
import Derived.Test.YtpphoifjhhidfaaWAt
import Derived.Test.YtpphoifjhhidfaaWEqStruct
import Derived.Test.YtpphoifjhhidfaaWRepsOne
import Derived.Test.YtpphoifjhhidfaaWInv
import Derived.Test.YtpphoifjhhidfaaWInvWords
import Derived.Test.YtpphoifjhhidfaaWGuard
import Derived.Test.YtpphoifjhhidfaaWNEv
import Derived.Test.YtpphoifjhhidfaaWMore
namespace Go.Proofs.Ytpphoifjhhidfaa.GDerUnlike
open Go.Proofs.Ytpphoifjhhidfaa.Der
open Go.RowKit Go.Proofs.YtpphoifjhhidfaaW.PrintWords Go.Proofs.YtpphoifjhhidfaaW.PrintLast Go.Proofs.YtpphoifjhhidfaaW.PrintMore
attribute [local go_sem] max2_int min2_int max_two min_two max_three min_three max_four min_four   -- for this text's walks alone
set_option linter.unusedVariables false
set_option linter.unusedSimpArgs false



def errW : Option Int → Value
  | none => .nilIface
  | some c => .iface 0 (.int .i64 c)
theorem errW_none : errW none = .nilIface := rfl
theorem errW_some (c : Int) : errW (some c) = .iface 0 (.int .i64 c) := rfl

theorem info5 : (Try.prog.info? 5).map (fun i => (i.zero, i.size, i.bytes)) = some (some (.int .u8 0), 1, 1) := by kernel_rfl
-- the values' own types
theorem k24_openF {W : World} {ok : Nat → Prop} {x : S24} {cs : List Value} (h : Kd.FK k24 W ok x cs) : ∃ A4 c4, cs = [.int .i64 x.f0, .int .i64 x.f1, .string x.f2, .int .i64 x.f3, .slice A4 x.f4.length c4] ∧ x.f4.length ≤ c4 ∧ Kd.F k24 W ok A4 x.f4.length x.f4 := by
  obtain ⟨A4, c4, rfl, l4, _⟩ := k24_open (Kd.FK_now h)
  exact ⟨A4, c4, rfl, l4, (fun W' hW => by obtain ⟨A4_, c4_, he, l4_, g4_⟩ := k24_open (h W' hW); injection (Option.some.inj (show some (Value.slice A4 x.f4.length c4) = some (Value.slice A4_ x.f4.length c4_) from congrArg (fun l => l[4]?) he)) with ha_ _ _; rw [ha_]; exact g4_)⟩
theorem k24_mkF (W : World) (ok : Nat → Prop) (x : S24) {A4 : Option Addr} {c4 : Nat} (l4 : x.f4.length ≤ c4) (g4 : Kd.F k24 W ok A4 x.f4.length x.f4) : Kd.FK k24 W ok x [.int .i64 x.f0, .int .i64 x.f1, .string x.f2, .int .i64 x.f3, .slice A4 x.f4.length c4] := fun W2 hW => k24_mk W2 x l4 (g4 W2 hW)

end Go.Proofs.Ytpphoifjhhidfaa.GDerUnlike
