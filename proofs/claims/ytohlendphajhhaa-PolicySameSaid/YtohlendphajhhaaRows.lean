/-
  No cell of these rows narrows 'for every input' (looked for: loops, veiled, ifaces, maps, wideKeys, modest, calm, conditions, laid).
  DERIVED. THE GIVEN ROWS OF THIS SEAT. 9 by the template 'for every input the law returns true; each argument reads behind the call as it read before'; 0 by the template 'total and deterministic' (their statements: YtohlendphajhhaaTotals.lean).
  GIVEN WITH THE SEED: the statements are not yours to turn. If you find one false, say at which input.
  Laid BY PROGRAM, IN A SANDBOX (cutbox-rows.mjs): the forced cells as the released guide's own fill.sh prints them over the translation fcad9ecfacad11d1… (all of the seat's roots in one cut). By AI agents, Wed Nov 11 2026. No macro, syntax, notation, axiom, sorry.
-/
import Derived.Test.YtohlendphajhhaaChecked
import GoSem.Claim
import GoSem.ClaimJoined
import GoSem.ClaimMapViews
import Derived.JoinedTies
import Derived.KernelRfl
namespace Go.Proofs.Ytohlendphajhhaa
/- THE CELL 'sum', in the pinned program and in every row, IS THE sha256 OF THE DUMP (.gsa) THAT YtohlendphajhhaaProg.lean LOADS. Nothing in Lean hashes anything: it is a label: what it is worth is what the hold of that sum in a sandbox is worth. -/
noncomputable def Try.pinned : Pinned := { name := "ytohlendphajhhaa", sum := "fcad9ecfacad11d1dcef151d1755c55fdf168e384d87bf6c0ef50d77f2a51193", checked := Try.checked }
namespace Rows
def none {H : Type} : Left H := { results := [], args := [] }

/-- 'sluicewaylaw11.PolicyLocks': WHATEVER THE INPUT: true; the input reads as it did. -/
def policyLocksSpec : ChangeSpec := { name := "policyLocks", fn := fun _ => fun
  | [d1, d2] => { results := [.lit (.bool true)], args := [d1, d2] }
  | _ => none }
def policyLocksRow : OpenClaim := { program := "ytohlendphajhhaa", sum := "fcad9ecfacad11d1dcef151d1755c55fdf168e384d87bf6c0ef50d77f2a51193", func := "sluiceway/sluicewaylaw11.PolicyLocks", spec := "policyLocks", apart := false }
def PolicyLocksSaid : Prop := policyLocksRow.holds Try.pinned (OpenSpec.ofChange policyLocksSpec)

/-- ITS FALSE NEIGHBOUR: 'it returns false'. Refute it at one input. -/
def policyLocksWrong : ChangeSpec := { name := "policyLocks", fn := fun _ => fun
  | [d1, d2] => { results := [.lit (.bool false)], args := [d1, d2] }
  | _ => none }
def PolicyLocksWrongFalsely : Prop := policyLocksRow.holds Try.pinned (OpenSpec.ofChange policyLocksWrong)

/-- 'sluicewaylaw11.PolicyLives': WHATEVER THE INPUT: true; the input reads as it did. -/
def policyLivesSpec : ChangeSpec := { name := "policyLives", fn := fun _ => fun
  | [d1, d2, d3, d4] => { results := [.lit (.bool true)], args := [d1, d2, d3, d4] }
  | _ => none }
def policyLivesRow : OpenClaim := { program := "ytohlendphajhhaa", sum := "fcad9ecfacad11d1dcef151d1755c55fdf168e384d87bf6c0ef50d77f2a51193", func := "sluiceway/sluicewaylaw11.PolicyLives", spec := "policyLives", apart := false }
def PolicyLivesSaid : Prop := policyLivesRow.holds Try.pinned (OpenSpec.ofChange policyLivesSpec)

/-- ITS FALSE NEIGHBOUR: 'it returns false'. Refute it at one input. -/
def policyLivesWrong : ChangeSpec := { name := "policyLives", fn := fun _ => fun
  | [d1, d2, d3, d4] => { results := [.lit (.bool false)], args := [d1, d2, d3, d4] }
  | _ => none }
def PolicyLivesWrongFalsely : Prop := policyLivesRow.holds Try.pinned (OpenSpec.ofChange policyLivesWrong)

/-- 'sluicewaylaw11.PolicyFails': WHATEVER THE INPUT: true; the input reads as it did. -/
def policyFailsSpec : ChangeSpec := { name := "policyFails", fn := fun _ => fun
  | [d1, d2, d3] => { results := [.lit (.bool true)], args := [d1, d2, d3] }
  | _ => none }
def policyFailsRow : OpenClaim := { program := "ytohlendphajhhaa", sum := "fcad9ecfacad11d1dcef151d1755c55fdf168e384d87bf6c0ef50d77f2a51193", func := "sluiceway/sluicewaylaw11.PolicyFails", spec := "policyFails", apart := false }
def PolicyFailsSaid : Prop := policyFailsRow.holds Try.pinned (OpenSpec.ofChange policyFailsSpec)

/-- ITS FALSE NEIGHBOUR: 'it returns false'. Refute it at one input. -/
def policyFailsWrong : ChangeSpec := { name := "policyFails", fn := fun _ => fun
  | [d1, d2, d3] => { results := [.lit (.bool false)], args := [d1, d2, d3] }
  | _ => none }
def PolicyFailsWrongFalsely : Prop := policyFailsRow.holds Try.pinned (OpenSpec.ofChange policyFailsWrong)

/-- 'sluicewaylaw11.PolicyTimes': WHATEVER THE INPUT: true; the input reads as it did. -/
def policyTimesSpec : ChangeSpec := { name := "policyTimes", fn := fun _ => fun
  | [d1, d2, d3, d4, d5] => { results := [.lit (.bool true)], args := [d1, d2, d3, d4, d5] }
  | _ => none }
def policyTimesRow : OpenClaim := { program := "ytohlendphajhhaa", sum := "fcad9ecfacad11d1dcef151d1755c55fdf168e384d87bf6c0ef50d77f2a51193", func := "sluiceway/sluicewaylaw11.PolicyTimes", spec := "policyTimes", apart := false }
def PolicyTimesSaid : Prop := policyTimesRow.holds Try.pinned (OpenSpec.ofChange policyTimesSpec)

/-- ITS FALSE NEIGHBOUR: 'it returns false'. Refute it at one input. -/
def policyTimesWrong : ChangeSpec := { name := "policyTimes", fn := fun _ => fun
  | [d1, d2, d3, d4, d5] => { results := [.lit (.bool false)], args := [d1, d2, d3, d4, d5] }
  | _ => none }
def PolicyTimesWrongFalsely : Prop := policyTimesRow.holds Try.pinned (OpenSpec.ofChange policyTimesWrong)

/-- 'sluicewaylaw11.PolicyWide': WHATEVER THE INPUT: true; the input reads as it did. -/
def policyWideSpec : ChangeSpec := { name := "policyWide", fn := fun _ => fun
  | [d1, d2, d3, d4, d5] => { results := [.lit (.bool true)], args := [d1, d2, d3, d4, d5] }
  | _ => none }
def policyWideRow : OpenClaim := { program := "ytohlendphajhhaa", sum := "fcad9ecfacad11d1dcef151d1755c55fdf168e384d87bf6c0ef50d77f2a51193", func := "sluiceway/sluicewaylaw11.PolicyWide", spec := "policyWide", apart := false }
def PolicyWideSaid : Prop := policyWideRow.holds Try.pinned (OpenSpec.ofChange policyWideSpec)

/-- ITS FALSE NEIGHBOUR: 'it returns false'. Refute it at one input. -/
def policyWideWrong : ChangeSpec := { name := "policyWide", fn := fun _ => fun
  | [d1, d2, d3, d4, d5] => { results := [.lit (.bool false)], args := [d1, d2, d3, d4, d5] }
  | _ => none }
def PolicyWideWrongFalsely : Prop := policyWideRow.holds Try.pinned (OpenSpec.ofChange policyWideWrong)

/-- 'sluicewaylaw11.PolicySkews': WHATEVER THE INPUT: true; the input reads as it did. -/
def policySkewsSpec : ChangeSpec := { name := "policySkews", fn := fun _ => fun
  | [d1, d2, d3, d4] => { results := [.lit (.bool true)], args := [d1, d2, d3, d4] }
  | _ => none }
def policySkewsRow : OpenClaim := { program := "ytohlendphajhhaa", sum := "fcad9ecfacad11d1dcef151d1755c55fdf168e384d87bf6c0ef50d77f2a51193", func := "sluiceway/sluicewaylaw11.PolicySkews", spec := "policySkews", apart := false }
def PolicySkewsSaid : Prop := policySkewsRow.holds Try.pinned (OpenSpec.ofChange policySkewsSpec)

/-- ITS FALSE NEIGHBOUR: 'it returns false'. Refute it at one input. -/
def policySkewsWrong : ChangeSpec := { name := "policySkews", fn := fun _ => fun
  | [d1, d2, d3, d4] => { results := [.lit (.bool false)], args := [d1, d2, d3, d4] }
  | _ => none }
def PolicySkewsWrongFalsely : Prop := policySkewsRow.holds Try.pinned (OpenSpec.ofChange policySkewsWrong)

/-- 'sluicewaylaw11.PolicyShifts': WHATEVER THE INPUT: true; the input reads as it did. -/
def policyShiftsSpec : ChangeSpec := { name := "policyShifts", fn := fun _ => fun
  | [d1, d2, d3, d4, d5] => { results := [.lit (.bool true)], args := [d1, d2, d3, d4, d5] }
  | _ => none }
def policyShiftsRow : OpenClaim := { program := "ytohlendphajhhaa", sum := "fcad9ecfacad11d1dcef151d1755c55fdf168e384d87bf6c0ef50d77f2a51193", func := "sluiceway/sluicewaylaw11.PolicyShifts", spec := "policyShifts", apart := false }
def PolicyShiftsSaid : Prop := policyShiftsRow.holds Try.pinned (OpenSpec.ofChange policyShiftsSpec)

/-- ITS FALSE NEIGHBOUR: 'it returns false'. Refute it at one input. -/
def policyShiftsWrong : ChangeSpec := { name := "policyShifts", fn := fun _ => fun
  | [d1, d2, d3, d4, d5] => { results := [.lit (.bool false)], args := [d1, d2, d3, d4, d5] }
  | _ => none }
def PolicyShiftsWrongFalsely : Prop := policyShiftsRow.holds Try.pinned (OpenSpec.ofChange policyShiftsWrong)

/-- 'sluicewaylaw11.PolicyTells': WHATEVER THE INPUT: true; the input reads as it did. -/
def policyTellsSpec : ChangeSpec := { name := "policyTells", fn := fun _ => fun
  | [d1, d2, d3, d4] => { results := [.lit (.bool true)], args := [d1, d2, d3, d4] }
  | _ => none }
def policyTellsRow : OpenClaim := { program := "ytohlendphajhhaa", sum := "fcad9ecfacad11d1dcef151d1755c55fdf168e384d87bf6c0ef50d77f2a51193", func := "sluiceway/sluicewaylaw11.PolicyTells", spec := "policyTells", apart := false }
def PolicyTellsSaid : Prop := policyTellsRow.holds Try.pinned (OpenSpec.ofChange policyTellsSpec)

/-- ITS FALSE NEIGHBOUR: 'it returns false'. Refute it at one input. -/
def policyTellsWrong : ChangeSpec := { name := "policyTells", fn := fun _ => fun
  | [d1, d2, d3, d4] => { results := [.lit (.bool false)], args := [d1, d2, d3, d4] }
  | _ => none }
def PolicyTellsWrongFalsely : Prop := policyTellsRow.holds Try.pinned (OpenSpec.ofChange policyTellsWrong)

/-- 'sluicewaylaw11.PolicySame': WHATEVER THE INPUT: true; the input reads as it did. -/
def policySameSpec : ChangeSpec := { name := "policySame", fn := fun _ => fun
  | [d1, d2, d3, d4] => { results := [.lit (.bool true)], args := [d1, d2, d3, d4] }
  | _ => none }
def policySameRow : OpenClaim := { program := "ytohlendphajhhaa", sum := "fcad9ecfacad11d1dcef151d1755c55fdf168e384d87bf6c0ef50d77f2a51193", func := "sluiceway/sluicewaylaw11.PolicySame", spec := "policySame", apart := false }
def PolicySameSaid : Prop := policySameRow.holds Try.pinned (OpenSpec.ofChange policySameSpec)

/-- ITS FALSE NEIGHBOUR: 'it returns false'. Refute it at one input. -/
def policySameWrong : ChangeSpec := { name := "policySame", fn := fun _ => fun
  | [d1, d2, d3, d4] => { results := [.lit (.bool false)], args := [d1, d2, d3, d4] }
  | _ => none }
def PolicySameWrongFalsely : Prop := policySameRow.holds Try.pinned (OpenSpec.ofChange policySameWrong)

/- THE SECOND FORM. 'bulk': how many values and letters a reading holds, each counted each time it is reached (what is shared counts as often as it is met; a slice's spare places count too). A statement '..UptoSaid' is the law's where the arguments, and the package variables that the reading takes, are together of bulk at most 1048576: NARROWER than '..Said'. Prove '..Said' where nothing that the law and all that it calls make is longer than what came in: it says more and counts as full. Else prove '..UptoSaid'. A law counts once. -/
mutual
def uptoBulk {H : Type} : DataW H → Nat
  | .lit (.string bytes) => bytes.length + 1
  | .lit _ => 1
  | .nil => 1
  | .ptr d => uptoBulk d + 1
  | .slice elems spare => uptoBulkAll elems + uptoBulkAll spare + 1
  | .agg parts => uptoBulkAll parts + 1
  | .iface _ d => uptoBulk d + 1
  | .map entries => uptoBulkEntries entries + 1
  | .held _ => 1
def uptoBulkAll {H : Type} : List (DataW H) → Nat
  | [] => 0
  | d :: r => uptoBulk d + uptoBulkAll r
def uptoBulkEntries {H : Type} : List (Lit × DataW H) → Nat
  | [] => 0
  | x :: r => uptoBulkEntry x + uptoBulkEntries r
def uptoBulkEntry {H : Type} : Lit × DataW H → Nat
  | (.string bytes, d) => bytes.length + uptoBulk d + 1
  | (_, d) => uptoBulk d + 1
 end
def uptoSmall : (H : Type) → List (DataW H) → Bool := fun _ ds => decide (uptoBulkAll ds ≤ 1048576)
def OpenSpec.upto (s : _root_.Go.ChangeSpec) : _root_.Go.OpenSpec := { _root_.Go.OpenSpec.ofChange s with cond := some uptoSmall }

/-- 'sluicewaylaw11.PolicyLocks', WHERE WHAT IT READS IS OF BULK AT MOST 1048576: true; the input reads as it did. -/
def policyLocksUptoRow : OpenClaim := { program := "ytohlendphajhhaa", sum := "fcad9ecfacad11d1dcef151d1755c55fdf168e384d87bf6c0ef50d77f2a51193", func := "sluiceway/sluicewaylaw11.PolicyLocks", spec := "policyLocks", apart := false, narrowed := true }
def PolicyLocksUptoSaid : Prop := policyLocksUptoRow.holds Try.pinned (OpenSpec.upto policyLocksSpec)

/-- 'sluicewaylaw11.PolicyLives', WHERE WHAT IT READS IS OF BULK AT MOST 1048576: true; the input reads as it did. -/
def policyLivesUptoRow : OpenClaim := { program := "ytohlendphajhhaa", sum := "fcad9ecfacad11d1dcef151d1755c55fdf168e384d87bf6c0ef50d77f2a51193", func := "sluiceway/sluicewaylaw11.PolicyLives", spec := "policyLives", apart := false, narrowed := true }
def PolicyLivesUptoSaid : Prop := policyLivesUptoRow.holds Try.pinned (OpenSpec.upto policyLivesSpec)

/-- 'sluicewaylaw11.PolicyFails', WHERE WHAT IT READS IS OF BULK AT MOST 1048576: true; the input reads as it did. -/
def policyFailsUptoRow : OpenClaim := { program := "ytohlendphajhhaa", sum := "fcad9ecfacad11d1dcef151d1755c55fdf168e384d87bf6c0ef50d77f2a51193", func := "sluiceway/sluicewaylaw11.PolicyFails", spec := "policyFails", apart := false, narrowed := true }
def PolicyFailsUptoSaid : Prop := policyFailsUptoRow.holds Try.pinned (OpenSpec.upto policyFailsSpec)

/-- 'sluicewaylaw11.PolicyTimes', WHERE WHAT IT READS IS OF BULK AT MOST 1048576: true; the input reads as it did. -/
def policyTimesUptoRow : OpenClaim := { program := "ytohlendphajhhaa", sum := "fcad9ecfacad11d1dcef151d1755c55fdf168e384d87bf6c0ef50d77f2a51193", func := "sluiceway/sluicewaylaw11.PolicyTimes", spec := "policyTimes", apart := false, narrowed := true }
def PolicyTimesUptoSaid : Prop := policyTimesUptoRow.holds Try.pinned (OpenSpec.upto policyTimesSpec)

/-- 'sluicewaylaw11.PolicyWide', WHERE WHAT IT READS IS OF BULK AT MOST 1048576: true; the input reads as it did. -/
def policyWideUptoRow : OpenClaim := { program := "ytohlendphajhhaa", sum := "fcad9ecfacad11d1dcef151d1755c55fdf168e384d87bf6c0ef50d77f2a51193", func := "sluiceway/sluicewaylaw11.PolicyWide", spec := "policyWide", apart := false, narrowed := true }
def PolicyWideUptoSaid : Prop := policyWideUptoRow.holds Try.pinned (OpenSpec.upto policyWideSpec)

/-- 'sluicewaylaw11.PolicySkews', WHERE WHAT IT READS IS OF BULK AT MOST 1048576: true; the input reads as it did. -/
def policySkewsUptoRow : OpenClaim := { program := "ytohlendphajhhaa", sum := "fcad9ecfacad11d1dcef151d1755c55fdf168e384d87bf6c0ef50d77f2a51193", func := "sluiceway/sluicewaylaw11.PolicySkews", spec := "policySkews", apart := false, narrowed := true }
def PolicySkewsUptoSaid : Prop := policySkewsUptoRow.holds Try.pinned (OpenSpec.upto policySkewsSpec)

/-- 'sluicewaylaw11.PolicyShifts', WHERE WHAT IT READS IS OF BULK AT MOST 1048576: true; the input reads as it did. -/
def policyShiftsUptoRow : OpenClaim := { program := "ytohlendphajhhaa", sum := "fcad9ecfacad11d1dcef151d1755c55fdf168e384d87bf6c0ef50d77f2a51193", func := "sluiceway/sluicewaylaw11.PolicyShifts", spec := "policyShifts", apart := false, narrowed := true }
def PolicyShiftsUptoSaid : Prop := policyShiftsUptoRow.holds Try.pinned (OpenSpec.upto policyShiftsSpec)

/-- 'sluicewaylaw11.PolicyTells', WHERE WHAT IT READS IS OF BULK AT MOST 1048576: true; the input reads as it did. -/
def policyTellsUptoRow : OpenClaim := { program := "ytohlendphajhhaa", sum := "fcad9ecfacad11d1dcef151d1755c55fdf168e384d87bf6c0ef50d77f2a51193", func := "sluiceway/sluicewaylaw11.PolicyTells", spec := "policyTells", apart := false, narrowed := true }
def PolicyTellsUptoSaid : Prop := policyTellsUptoRow.holds Try.pinned (OpenSpec.upto policyTellsSpec)

/-- 'sluicewaylaw11.PolicySame', WHERE WHAT IT READS IS OF BULK AT MOST 1048576: true; the input reads as it did. -/
def policySameUptoRow : OpenClaim := { program := "ytohlendphajhhaa", sum := "fcad9ecfacad11d1dcef151d1755c55fdf168e384d87bf6c0ef50d77f2a51193", func := "sluiceway/sluicewaylaw11.PolicySame", spec := "policySame", apart := false, narrowed := true }
def PolicySameUptoSaid : Prop := policySameUptoRow.holds Try.pinned (OpenSpec.upto policySameSpec)

end Rows
end Go.Proofs.Ytohlendphajhhaa
