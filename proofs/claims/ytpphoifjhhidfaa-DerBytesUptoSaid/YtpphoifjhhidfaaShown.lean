/- shown answers true. -/
import Derived.Test.YtpphoifjhhidfaaGshownx1
import Derived.KernelRfl
namespace Go.Proofs.Ytpphoifjhhidfaa.Der
open Go.RowKit
open Go.Proofs.YtpphoifjhhidfaaW.PrintWords
theorem shown_true : Gshown.sluicewaylaw01_shown.f = some true := by kernel_rfl
theorem shown_calls (w : World) : Calls Try.prog 14 #[] w fun e w' => e = .returned (.bool true) ∧ Below w.heap.size w w' := Gshown.sluicewaylaw01_shown.calls true w shown_true
end Go.Proofs.Ytpphoifjhhidfaa.Der
