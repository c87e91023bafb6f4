/-
  No cell of these rows narrows 'for every input' (looked for: loops, veiled, ifaces, maps, wideKeys, modest, calm, conditions, laid).
  DERIVED. THE GIVEN ROWS OF THIS SEAT. 5 by the template 'for every input the law returns true; each argument reads behind the call as it read before'; 0 by the template 'total and deterministic' (their statements: YtnlcgibbonbniaaTotals.lean).
  GIVEN WITH THE SEED: the statements are not yours to turn. If you find one false, say at which input.
  Laid BY PROGRAM, IN A SANDBOX (cutbox-rows.mjs): the forced cells as the released guide's own fill.sh prints them over the translation fcb46307ab67752d… (all of the seat's roots in one cut). By AI agents, Wed Nov 11 2026. No macro, syntax, notation, axiom, sorry.
-/
import Derived.Test.YtnlcgibbonbniaaChecked
import GoSem.Claim
import GoSem.ClaimJoined
import GoSem.ClaimMapViews
import Derived.JoinedTies
import Derived.KernelRfl
namespace Go.Proofs.Ytnlcgibbonbniaa
/- THE CELL 'sum', in the pinned program and in every row, IS THE sha256 OF THE DUMP (.gsa) THAT YtnlcgibbonbniaaProg.lean LOADS. Nothing in Lean hashes anything: it is a label: what it is worth is what the hold of that sum in a sandbox is worth. -/
noncomputable def Try.pinned : Pinned := { name := "ytnlcgibbonbniaa", sum := "fcb46307ab67752d13becb3659ae7cbba3d2c1209b67d40682c31906df8e9fd0", checked := Try.checked }
namespace Rows
def none {H : Type} : Left H := { results := [], args := [] }

/-- 'sluicewaylaw06.DriftSpreads': WHATEVER THE INPUT: true; the input reads as it did. -/
def driftSpreadsSpec : ChangeSpec := { name := "driftSpreads", fn := fun _ => fun
  | [d] => { results := [.lit (.bool true)], args := [d] }
  | _ => none }
def driftSpreadsRow : OpenClaim := { program := "ytnlcgibbonbniaa", sum := "fcb46307ab67752d13becb3659ae7cbba3d2c1209b67d40682c31906df8e9fd0", func := "sluiceway/sluicewaylaw06.DriftSpreads", spec := "driftSpreads", apart := false }
def DriftSpreadsSaid : Prop := driftSpreadsRow.holds Try.pinned (OpenSpec.ofChange driftSpreadsSpec)

/-- ITS FALSE NEIGHBOUR: 'it returns false'. Refute it at one input. -/
def driftSpreadsWrong : ChangeSpec := { name := "driftSpreads", fn := fun _ => fun
  | [d] => { results := [.lit (.bool false)], args := [d] }
  | _ => none }
def DriftSpreadsWrongFalsely : Prop := driftSpreadsRow.holds Try.pinned (OpenSpec.ofChange driftSpreadsWrong)

/-- 'sluicewaylaw06.DriftTells': WHATEVER THE INPUT: true; the input reads as it did. -/
def driftTellsSpec : ChangeSpec := { name := "driftTells", fn := fun _ => fun
  | [d1, d2] => { results := [.lit (.bool true)], args := [d1, d2] }
  | _ => none }
def driftTellsRow : OpenClaim := { program := "ytnlcgibbonbniaa", sum := "fcb46307ab67752d13becb3659ae7cbba3d2c1209b67d40682c31906df8e9fd0", func := "sluiceway/sluicewaylaw06.DriftTells", spec := "driftTells", apart := false }
def DriftTellsSaid : Prop := driftTellsRow.holds Try.pinned (OpenSpec.ofChange driftTellsSpec)

/-- ITS FALSE NEIGHBOUR: 'it returns false'. Refute it at one input. -/
def driftTellsWrong : ChangeSpec := { name := "driftTells", fn := fun _ => fun
  | [d1, d2] => { results := [.lit (.bool false)], args := [d1, d2] }
  | _ => none }
def DriftTellsWrongFalsely : Prop := driftTellsRow.holds Try.pinned (OpenSpec.ofChange driftTellsWrong)

/-- 'sluicewaylaw06.DriftTurns': WHATEVER THE INPUT: true; the input reads as it did. -/
def driftTurnsSpec : ChangeSpec := { name := "driftTurns", fn := fun _ => fun
  | [d1, d2, d3] => { results := [.lit (.bool true)], args := [d1, d2, d3] }
  | _ => none }
def driftTurnsRow : OpenClaim := { program := "ytnlcgibbonbniaa", sum := "fcb46307ab67752d13becb3659ae7cbba3d2c1209b67d40682c31906df8e9fd0", func := "sluiceway/sluicewaylaw06.DriftTurns", spec := "driftTurns", apart := false }
def DriftTurnsSaid : Prop := driftTurnsRow.holds Try.pinned (OpenSpec.ofChange driftTurnsSpec)

/-- ITS FALSE NEIGHBOUR: 'it returns false'. Refute it at one input. -/
def driftTurnsWrong : ChangeSpec := { name := "driftTurns", fn := fun _ => fun
  | [d1, d2, d3] => { results := [.lit (.bool false)], args := [d1, d2, d3] }
  | _ => none }
def DriftTurnsWrongFalsely : Prop := driftTurnsRow.holds Try.pinned (OpenSpec.ofChange driftTurnsWrong)

/-- 'sluicewaylaw06.DriftOrder': WHATEVER THE INPUT: true; the input reads as it did. -/
def driftOrderSpec : ChangeSpec := { name := "driftOrder", fn := fun _ => fun
  | [d1, d2] => { results := [.lit (.bool true)], args := [d1, d2] }
  | _ => none }
def driftOrderRow : OpenClaim := { program := "ytnlcgibbonbniaa", sum := "fcb46307ab67752d13becb3659ae7cbba3d2c1209b67d40682c31906df8e9fd0", func := "sluiceway/sluicewaylaw06.DriftOrder", spec := "driftOrder", apart := false }
def DriftOrderSaid : Prop := driftOrderRow.holds Try.pinned (OpenSpec.ofChange driftOrderSpec)

/-- ITS FALSE NEIGHBOUR: 'it returns false'. Refute it at one input. -/
def driftOrderWrong : ChangeSpec := { name := "driftOrder", fn := fun _ => fun
  | [d1, d2] => { results := [.lit (.bool false)], args := [d1, d2] }
  | _ => none }
def DriftOrderWrongFalsely : Prop := driftOrderRow.holds Try.pinned (OpenSpec.ofChange driftOrderWrong)

/-- 'sluicewaylaw06.DriftLeans': WHATEVER THE INPUT: true; the input reads as it did. -/
def driftLeansSpec : ChangeSpec := { name := "driftLeans", fn := fun _ => fun
  | [d1, d2, d3] => { results := [.lit (.bool true)], args := [d1, d2, d3] }
  | _ => none }
def driftLeansRow : OpenClaim := { program := "ytnlcgibbonbniaa", sum := "fcb46307ab67752d13becb3659ae7cbba3d2c1209b67d40682c31906df8e9fd0", func := "sluiceway/sluicewaylaw06.DriftLeans", spec := "driftLeans", apart := false }
def DriftLeansSaid : Prop := driftLeansRow.holds Try.pinned (OpenSpec.ofChange driftLeansSpec)

/-- ITS FALSE NEIGHBOUR: 'it returns false'. Refute it at one input. -/
def driftLeansWrong : ChangeSpec := { name := "driftLeans", fn := fun _ => fun
  | [d1, d2, d3] => { results := [.lit (.bool false)], args := [d1, d2, d3] }
  | _ => none }
def DriftLeansWrongFalsely : Prop := driftLeansRow.holds Try.pinned (OpenSpec.ofChange driftLeansWrong)

/- THE SECOND FORM. 'bulk': how many values and letters a reading holds, each counted each time it is reached (what is shared counts as often as it is met; a slice's spare places count too). A statement '..UptoSaid' is the law's where the arguments, and the package variables that the reading takes, are together of bulk at most 1048576: NARROWER than '..Said'. Prove '..Said' where nothing that the law and all that it calls make is longer than what came in: it says more and counts as full. Else prove '..UptoSaid'. A law counts once. -/
mutual
def uptoBulk {H : Type} : DataW H → Nat
  | .lit (.string bytes) => bytes.length + 1
  | .lit _ => 1
  | .nil => 1
  | .ptr d => uptoBulk d + 1
  | .slice elems spare => uptoBulkAll elems + uptoBulkAll spare + 1
  | .agg parts => uptoBulkAll parts + 1
  | .iface _ d => uptoBulk d + 1
  | .map entries => uptoBulkEntries entries + 1
  | .held _ => 1
def uptoBulkAll {H : Type} : List (DataW H) → Nat
  | [] => 0
  | d :: r => uptoBulk d + uptoBulkAll r
def uptoBulkEntries {H : Type} : List (Lit × DataW H) → Nat
  | [] => 0
  | x :: r => uptoBulkEntry x + uptoBulkEntries r
def uptoBulkEntry {H : Type} : Lit × DataW H → Nat
  | (.string bytes, d) => bytes.length + uptoBulk d + 1
  | (_, d) => uptoBulk d + 1
 end
def uptoSmall : (H : Type) → List (DataW H) → Bool := fun _ ds => decide (uptoBulkAll ds ≤ 1048576)
def OpenSpec.upto (s : _root_.Go.ChangeSpec) : _root_.Go.OpenSpec := { _root_.Go.OpenSpec.ofChange s with cond := some uptoSmall }

/-- 'sluicewaylaw06.DriftSpreads', WHERE WHAT IT READS IS OF BULK AT MOST 1048576: true; the input reads as it did. -/
def driftSpreadsUptoRow : OpenClaim := { program := "ytnlcgibbonbniaa", sum := "fcb46307ab67752d13becb3659ae7cbba3d2c1209b67d40682c31906df8e9fd0", func := "sluiceway/sluicewaylaw06.DriftSpreads", spec := "driftSpreads", apart := false, narrowed := true }
def DriftSpreadsUptoSaid : Prop := driftSpreadsUptoRow.holds Try.pinned (OpenSpec.upto driftSpreadsSpec)

/-- 'sluicewaylaw06.DriftTells', WHERE WHAT IT READS IS OF BULK AT MOST 1048576: true; the input reads as it did. -/
def driftTellsUptoRow : OpenClaim := { program := "ytnlcgibbonbniaa", sum := "fcb46307ab67752d13becb3659ae7cbba3d2c1209b67d40682c31906df8e9fd0", func := "sluiceway/sluicewaylaw06.DriftTells", spec := "driftTells", apart := false, narrowed := true }
def DriftTellsUptoSaid : Prop := driftTellsUptoRow.holds Try.pinned (OpenSpec.upto driftTellsSpec)

/-- 'sluicewaylaw06.DriftTurns', WHERE WHAT IT READS IS OF BULK AT MOST 1048576: true; the input reads as it did. -/
def driftTurnsUptoRow : OpenClaim := { program := "ytnlcgibbonbniaa", sum := "fcb46307ab67752d13becb3659ae7cbba3d2c1209b67d40682c31906df8e9fd0", func := "sluiceway/sluicewaylaw06.DriftTurns", spec := "driftTurns", apart := false, narrowed := true }
def DriftTurnsUptoSaid : Prop := driftTurnsUptoRow.holds Try.pinned (OpenSpec.upto driftTurnsSpec)

/-- 'sluicewaylaw06.DriftOrder', WHERE WHAT IT READS IS OF BULK AT MOST 1048576: true; the input reads as it did. -/
def driftOrderUptoRow : OpenClaim := { program := "ytnlcgibbonbniaa", sum := "fcb46307ab67752d13becb3659ae7cbba3d2c1209b67d40682c31906df8e9fd0", func := "sluiceway/sluicewaylaw06.DriftOrder", spec := "driftOrder", apart := false, narrowed := true }
def DriftOrderUptoSaid : Prop := driftOrderUptoRow.holds Try.pinned (OpenSpec.upto driftOrderSpec)

/-- 'sluicewaylaw06.DriftLeans', WHERE WHAT IT READS IS OF BULK AT MOST 1048576: true; the input reads as it did. -/
def driftLeansUptoRow : OpenClaim := { program := "ytnlcgibbonbniaa", sum := "fcb46307ab67752d13becb3659ae7cbba3d2c1209b67d40682c31906df8e9fd0", func := "sluiceway/sluicewaylaw06.DriftLeans", spec := "driftLeans", apart := false, narrowed := true }
def DriftLeansUptoSaid : Prop := driftLeansUptoRow.holds Try.pinned (OpenSpec.upto driftLeansSpec)

end Rows
end Go.Proofs.Ytnlcgibbonbniaa
