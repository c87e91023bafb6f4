/- A node that came in as an argument: how it reads, and how much it weighs. No condition. -/
import Derived.Test.YtpphoifjhhidfaaTh3
import Derived.Test.YtpphoifjhhidfaaRows
import Derived.ProofKit
import Derived.OpenShut
import Derived.ChangeOld
namespace Go.Proofs.Ytpphoifjhhidfaa.Der
set_option linter.unusedVariables false
set_option linter.unusedSimpArgs false
open Go.ChangeShapes Go.WideShapes Go.ChangeAt Go.RowKit
open Go.Proofs.YtpphoifjhhidfaaW.PrintWords
mutual
/-- What a node weighs: its texts, and one for each node. -/
def wtT : S24 → Nat
  | ⟨_, _, s, _, ts⟩ => s.size + 1 + wtL ts
def wtL : List S24 → Nat
  | [] => 0
  | t :: r => wtT t + wtL r
end
end Go.Proofs.Ytpphoifjhhidfaa.Der
