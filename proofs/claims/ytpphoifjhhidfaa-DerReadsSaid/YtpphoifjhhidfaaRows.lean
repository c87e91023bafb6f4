/-
  NARROWER THAN 'FOR EVERY INPUT', by the rows' own cells (each row's printed sentence says how): DerBytes: loops · DerUnlike: loops · DerCuts: loops.
  DERIVED. THE GIVEN ROWS OF THIS SEAT. 11 by the template 'for every input the law returns true; each argument reads behind the call as it read before'; 0 by the template 'total and deterministic' (their statements: YtpphoifjhhidfaaTotals.lean).
  GIVEN WITH THE SEED: the statements are not yours to turn. If you find one false, say at which input.
  Laid BY PROGRAM, IN A SANDBOX (cutbox-rows.mjs): the forced cells as the released guide's own fill.sh prints them over the translation a8527112c7a608f4… (all of the seat's roots in one cut). By AI agents, Wed Nov 11 2026. No macro, syntax, notation, axiom, sorry.
-/
import Derived.Test.YtpphoifjhhidfaaChecked
import GoSem.Claim
import GoSem.ClaimJoined
import GoSem.ClaimMapViews
import Derived.JoinedTies
import Derived.KernelRfl
namespace Go.Proofs.Ytpphoifjhhidfaa
/- THE CELL 'sum', in the pinned program and in every row, IS THE sha256 OF THE DUMP (.gsa) THAT YtpphoifjhhidfaaProg.lean LOADS. Nothing in Lean hashes anything: it is a label: what it is worth is what the hold of that sum in a sandbox is worth. -/
noncomputable def Try.pinned : Pinned := { name := "ytpphoifjhhidfaa", sum := "a8527112c7a608f4a6399252475d351e96c6f987edca9a0c958ffa70291e7cd3", checked := Try.checked }
namespace Rows
def none {H : Type} : Left H := { results := [], args := [] }

/-- 'sluicewaylaw01.DerBytes': WHATEVER THE INPUT: true; the input reads as it did. -/
def derBytesSpec : ChangeSpec := { name := "derBytes", fn := fun _ => fun
  | [d] => { results := [.lit (.bool true)], args := [d] }
  | _ => none }
def derBytesRow : OpenClaim := { program := "ytpphoifjhhidfaa", sum := "a8527112c7a608f4a6399252475d351e96c6f987edca9a0c958ffa70291e7cd3", func := "sluiceway/sluicewaylaw01.DerBytes", spec := "derBytes", unfollowed := true, recurses := true, loops := true, apart := false }
def DerBytesSaid : Prop := derBytesRow.holds Try.pinned (OpenSpec.ofChange derBytesSpec)

/-- ITS FALSE NEIGHBOUR: 'it returns false'. Refute it at one input. -/
def derBytesWrong : ChangeSpec := { name := "derBytes", fn := fun _ => fun
  | [d] => { results := [.lit (.bool false)], args := [d] }
  | _ => none }
def DerBytesWrongFalsely : Prop := derBytesRow.holds Try.pinned (OpenSpec.ofChange derBytesWrong)

/-- 'sluicewaylaw01.DerReads': WHATEVER THE INPUT: true; the input reads as it did. -/
def derReadsSpec : ChangeSpec := { name := "derReads", fn := fun _ => fun
  | [d] => { results := [.lit (.bool true)], args := [d] }
  | _ => none }
def derReadsRow : OpenClaim := { program := "ytpphoifjhhidfaa", sum := "a8527112c7a608f4a6399252475d351e96c6f987edca9a0c958ffa70291e7cd3", func := "sluiceway/sluicewaylaw01.DerReads", spec := "derReads", unfollowed := true, recurses := true, apart := false }
def DerReadsSaid : Prop := derReadsRow.holds Try.pinned (OpenSpec.ofChange derReadsSpec)

/-- ITS FALSE NEIGHBOUR: 'it returns false'. Refute it at one input. -/
def derReadsWrong : ChangeSpec := { name := "derReads", fn := fun _ => fun
  | [d] => { results := [.lit (.bool false)], args := [d] }
  | _ => none }
def DerReadsWrongFalsely : Prop := derReadsRow.holds Try.pinned (OpenSpec.ofChange derReadsWrong)

/-- 'sluicewaylaw01.DerNumbers': WHATEVER THE INPUT: true; the input reads as it did. -/
def derNumbersSpec : ChangeSpec := { name := "derNumbers", fn := fun _ => fun
  | [d] => { results := [.lit (.bool true)], args := [d] }
  | _ => none }
def derNumbersRow : OpenClaim := { program := "ytpphoifjhhidfaa", sum := "a8527112c7a608f4a6399252475d351e96c6f987edca9a0c958ffa70291e7cd3", func := "sluiceway/sluicewaylaw01.DerNumbers", spec := "derNumbers", unfollowed := true, recurses := true, apart := false }
def DerNumbersSaid : Prop := derNumbersRow.holds Try.pinned (OpenSpec.ofChange derNumbersSpec)

/-- ITS FALSE NEIGHBOUR: 'it returns false'. Refute it at one input. -/
def derNumbersWrong : ChangeSpec := { name := "derNumbers", fn := fun _ => fun
  | [d] => { results := [.lit (.bool false)], args := [d] }
  | _ => none }
def DerNumbersWrongFalsely : Prop := derNumbersRow.holds Try.pinned (OpenSpec.ofChange derNumbersWrong)

/-- 'sluicewaylaw01.DerLengths': WHATEVER THE INPUT: true; the input reads as it did. -/
def derLengthsSpec : ChangeSpec := { name := "derLengths", fn := fun _ => fun
  | [d] => { results := [.lit (.bool true)], args := [d] }
  | _ => none }
def derLengthsRow : OpenClaim := { program := "ytpphoifjhhidfaa", sum := "a8527112c7a608f4a6399252475d351e96c6f987edca9a0c958ffa70291e7cd3", func := "sluiceway/sluicewaylaw01.DerLengths", spec := "derLengths", unfollowed := true, recurses := true, apart := false }
def DerLengthsSaid : Prop := derLengthsRow.holds Try.pinned (OpenSpec.ofChange derLengthsSpec)

/-- ITS FALSE NEIGHBOUR: 'it returns false'. Refute it at one input. -/
def derLengthsWrong : ChangeSpec := { name := "derLengths", fn := fun _ => fun
  | [d] => { results := [.lit (.bool false)], args := [d] }
  | _ => none }
def DerLengthsWrongFalsely : Prop := derLengthsRow.holds Try.pinned (OpenSpec.ofChange derLengthsWrong)

/-- 'sluicewaylaw01.DerDeep': WHATEVER THE INPUT: true; the input reads as it did. -/
def derDeepSpec : ChangeSpec := { name := "derDeep", fn := fun _ => fun
  | [d1, d2] => { results := [.lit (.bool true)], args := [d1, d2] }
  | _ => none }
def derDeepRow : OpenClaim := { program := "ytpphoifjhhidfaa", sum := "a8527112c7a608f4a6399252475d351e96c6f987edca9a0c958ffa70291e7cd3", func := "sluiceway/sluicewaylaw01.DerDeep", spec := "derDeep", unfollowed := true, recurses := true, apart := false }
def DerDeepSaid : Prop := derDeepRow.holds Try.pinned (OpenSpec.ofChange derDeepSpec)

/-- ITS FALSE NEIGHBOUR: 'it returns false'. Refute it at one input. -/
def derDeepWrong : ChangeSpec := { name := "derDeep", fn := fun _ => fun
  | [d1, d2] => { results := [.lit (.bool false)], args := [d1, d2] }
  | _ => none }
def DerDeepWrongFalsely : Prop := derDeepRow.holds Try.pinned (OpenSpec.ofChange derDeepWrong)

/-- 'sluicewaylaw01.DerUnlike': WHATEVER THE INPUT: true; the input reads as it did. -/
def derUnlikeSpec : ChangeSpec := { name := "derUnlike", fn := fun _ => fun
  | [d1, d2] => { results := [.lit (.bool true)], args := [d1, d2] }
  | _ => none }
def derUnlikeRow : OpenClaim := { program := "ytpphoifjhhidfaa", sum := "a8527112c7a608f4a6399252475d351e96c6f987edca9a0c958ffa70291e7cd3", func := "sluiceway/sluicewaylaw01.DerUnlike", spec := "derUnlike", unfollowed := true, recurses := true, loops := true, apart := false }
def DerUnlikeSaid : Prop := derUnlikeRow.holds Try.pinned (OpenSpec.ofChange derUnlikeSpec)

/-- ITS FALSE NEIGHBOUR: 'it returns false'. Refute it at one input. -/
def derUnlikeWrong : ChangeSpec := { name := "derUnlike", fn := fun _ => fun
  | [d1, d2] => { results := [.lit (.bool false)], args := [d1, d2] }
  | _ => none }
def DerUnlikeWrongFalsely : Prop := derUnlikeRow.holds Try.pinned (OpenSpec.ofChange derUnlikeWrong)

/-- 'sluicewaylaw01.DerCuts': WHATEVER THE INPUT: true; the input reads as it did. -/
def derCutsSpec : ChangeSpec := { name := "derCuts", fn := fun _ => fun
  | [d1, d2] => { results := [.lit (.bool true)], args := [d1, d2] }
  | _ => none }
def derCutsRow : OpenClaim := { program := "ytpphoifjhhidfaa", sum := "a8527112c7a608f4a6399252475d351e96c6f987edca9a0c958ffa70291e7cd3", func := "sluiceway/sluicewaylaw01.DerCuts", spec := "derCuts", unfollowed := true, recurses := true, loops := true, apart := false }
def DerCutsSaid : Prop := derCutsRow.holds Try.pinned (OpenSpec.ofChange derCutsSpec)

/-- ITS FALSE NEIGHBOUR: 'it returns false'. Refute it at one input. -/
def derCutsWrong : ChangeSpec := { name := "derCuts", fn := fun _ => fun
  | [d1, d2] => { results := [.lit (.bool false)], args := [d1, d2] }
  | _ => none }
def DerCutsWrongFalsely : Prop := derCutsRow.holds Try.pinned (OpenSpec.ofChange derCutsWrong)

/-- 'sluicewaylaw01.DerTexts': WHATEVER THE INPUT: true; the input reads as it did. -/
def derTextsSpec : ChangeSpec := { name := "derTexts", fn := fun _ => fun
  | [d] => { results := [.lit (.bool true)], args := [d] }
  | _ => none }
def derTextsRow : OpenClaim := { program := "ytpphoifjhhidfaa", sum := "a8527112c7a608f4a6399252475d351e96c6f987edca9a0c958ffa70291e7cd3", func := "sluiceway/sluicewaylaw01.DerTexts", spec := "derTexts", unfollowed := true, recurses := true, apart := false }
def DerTextsSaid : Prop := derTextsRow.holds Try.pinned (OpenSpec.ofChange derTextsSpec)

/-- ITS FALSE NEIGHBOUR: 'it returns false'. Refute it at one input. -/
def derTextsWrong : ChangeSpec := { name := "derTexts", fn := fun _ => fun
  | [d] => { results := [.lit (.bool false)], args := [d] }
  | _ => none }
def DerTextsWrongFalsely : Prop := derTextsRow.holds Try.pinned (OpenSpec.ofChange derTextsWrong)

/-- 'sluicewaylaw01.DerOthers': WHATEVER THE INPUT: true; the input reads as it did. -/
def derOthersSpec : ChangeSpec := { name := "derOthers", fn := fun _ => fun
  | [d1, d2] => { results := [.lit (.bool true)], args := [d1, d2] }
  | _ => none }
def derOthersRow : OpenClaim := { program := "ytpphoifjhhidfaa", sum := "a8527112c7a608f4a6399252475d351e96c6f987edca9a0c958ffa70291e7cd3", func := "sluiceway/sluicewaylaw01.DerOthers", spec := "derOthers", unfollowed := true, recurses := true, apart := false }
def DerOthersSaid : Prop := derOthersRow.holds Try.pinned (OpenSpec.ofChange derOthersSpec)

/-- ITS FALSE NEIGHBOUR: 'it returns false'. Refute it at one input. -/
def derOthersWrong : ChangeSpec := { name := "derOthers", fn := fun _ => fun
  | [d1, d2] => { results := [.lit (.bool false)], args := [d1, d2] }
  | _ => none }
def DerOthersWrongFalsely : Prop := derOthersRow.holds Try.pinned (OpenSpec.ofChange derOthersWrong)

/-- 'sluicewaylaw01.DerTruths': WHATEVER THE INPUT: true; the input reads as it did. -/
def derTruthsSpec : ChangeSpec := { name := "derTruths", fn := fun _ => fun
  | [d] => { results := [.lit (.bool true)], args := [d] }
  | _ => none }
def derTruthsRow : OpenClaim := { program := "ytpphoifjhhidfaa", sum := "a8527112c7a608f4a6399252475d351e96c6f987edca9a0c958ffa70291e7cd3", func := "sluiceway/sluicewaylaw01.DerTruths", spec := "derTruths", unfollowed := true, recurses := true, apart := false }
def DerTruthsSaid : Prop := derTruthsRow.holds Try.pinned (OpenSpec.ofChange derTruthsSpec)

/-- ITS FALSE NEIGHBOUR: 'it returns false'. Refute it at one input. -/
def derTruthsWrong : ChangeSpec := { name := "derTruths", fn := fun _ => fun
  | [d] => { results := [.lit (.bool false)], args := [d] }
  | _ => none }
def DerTruthsWrongFalsely : Prop := derTruthsRow.holds Try.pinned (OpenSpec.ofChange derTruthsWrong)

/-- 'sluicewaylaw01.DerSigns': WHATEVER THE INPUT: true; the input reads as it did. -/
def derSignsSpec : ChangeSpec := { name := "derSigns", fn := fun _ => fun
  | [d] => { results := [.lit (.bool true)], args := [d] }
  | _ => none }
def derSignsRow : OpenClaim := { program := "ytpphoifjhhidfaa", sum := "a8527112c7a608f4a6399252475d351e96c6f987edca9a0c958ffa70291e7cd3", func := "sluiceway/sluicewaylaw01.DerSigns", spec := "derSigns", unfollowed := true, recurses := true, apart := false }
def DerSignsSaid : Prop := derSignsRow.holds Try.pinned (OpenSpec.ofChange derSignsSpec)

/-- ITS FALSE NEIGHBOUR: 'it returns false'. Refute it at one input. -/
def derSignsWrong : ChangeSpec := { name := "derSigns", fn := fun _ => fun
  | [d] => { results := [.lit (.bool false)], args := [d] }
  | _ => none }
def DerSignsWrongFalsely : Prop := derSignsRow.holds Try.pinned (OpenSpec.ofChange derSignsWrong)

/- THE SECOND FORM. 'bulk': how many values and letters a reading holds, each counted each time it is reached (what is shared counts as often as it is met; a slice's spare places count too). A statement '..UptoSaid' is the law's where the arguments, and the package variables that the reading takes, are together of bulk at most 1048576: NARROWER than '..Said'. Prove '..Said' where nothing that the law and all that it calls make is longer than what came in: it says more and counts as full. Else prove '..UptoSaid'. A law counts once. -/
mutual
def uptoBulk {H : Type} : DataW H → Nat
  | .lit (.string bytes) => bytes.length + 1
  | .lit _ => 1
  | .nil => 1
  | .ptr d => uptoBulk d + 1
  | .slice elems spare => uptoBulkAll elems + uptoBulkAll spare + 1
  | .agg parts => uptoBulkAll parts + 1
  | .iface _ d => uptoBulk d + 1
  | .map entries => uptoBulkEntries entries + 1
  | .held _ => 1
def uptoBulkAll {H : Type} : List (DataW H) → Nat
  | [] => 0
  | d :: r => uptoBulk d + uptoBulkAll r
def uptoBulkEntries {H : Type} : List (Lit × DataW H) → Nat
  | [] => 0
  | x :: r => uptoBulkEntry x + uptoBulkEntries r
def uptoBulkEntry {H : Type} : Lit × DataW H → Nat
  | (.string bytes, d) => bytes.length + uptoBulk d + 1
  | (_, d) => uptoBulk d + 1
 end
def uptoSmall : (H : Type) → List (DataW H) → Bool := fun _ ds => decide (uptoBulkAll ds ≤ 1048576)
def OpenSpec.upto (s : _root_.Go.ChangeSpec) : _root_.Go.OpenSpec := { _root_.Go.OpenSpec.ofChange s with cond := some uptoSmall }

/-- 'sluicewaylaw01.DerBytes', WHERE WHAT IT READS IS OF BULK AT MOST 1048576: true; the input reads as it did. -/
def derBytesUptoRow : OpenClaim := { program := "ytpphoifjhhidfaa", sum := "a8527112c7a608f4a6399252475d351e96c6f987edca9a0c958ffa70291e7cd3", func := "sluiceway/sluicewaylaw01.DerBytes", spec := "derBytes", unfollowed := true, recurses := true, loops := true, apart := false, narrowed := true }
def DerBytesUptoSaid : Prop := derBytesUptoRow.holds Try.pinned (OpenSpec.upto derBytesSpec)

/-- 'sluicewaylaw01.DerReads', WHERE WHAT IT READS IS OF BULK AT MOST 1048576: true; the input reads as it did. -/
def derReadsUptoRow : OpenClaim := { program := "ytpphoifjhhidfaa", sum := "a8527112c7a608f4a6399252475d351e96c6f987edca9a0c958ffa70291e7cd3", func := "sluiceway/sluicewaylaw01.DerReads", spec := "derReads", unfollowed := true, recurses := true, apart := false, narrowed := true }
def DerReadsUptoSaid : Prop := derReadsUptoRow.holds Try.pinned (OpenSpec.upto derReadsSpec)

/-- 'sluicewaylaw01.DerNumbers', WHERE WHAT IT READS IS OF BULK AT MOST 1048576: true; the input reads as it did. -/
def derNumbersUptoRow : OpenClaim := { program := "ytpphoifjhhidfaa", sum := "a8527112c7a608f4a6399252475d351e96c6f987edca9a0c958ffa70291e7cd3", func := "sluiceway/sluicewaylaw01.DerNumbers", spec := "derNumbers", unfollowed := true, recurses := true, apart := false, narrowed := true }
def DerNumbersUptoSaid : Prop := derNumbersUptoRow.holds Try.pinned (OpenSpec.upto derNumbersSpec)

/-- 'sluicewaylaw01.DerLengths', WHERE WHAT IT READS IS OF BULK AT MOST 1048576: true; the input reads as it did. -/
def derLengthsUptoRow : OpenClaim := { program := "ytpphoifjhhidfaa", sum := "a8527112c7a608f4a6399252475d351e96c6f987edca9a0c958ffa70291e7cd3", func := "sluiceway/sluicewaylaw01.DerLengths", spec := "derLengths", unfollowed := true, recurses := true, apart := false, narrowed := true }
def DerLengthsUptoSaid : Prop := derLengthsUptoRow.holds Try.pinned (OpenSpec.upto derLengthsSpec)

/-- 'sluicewaylaw01.DerDeep', WHERE WHAT IT READS IS OF BULK AT MOST 1048576: true; the input reads as it did. -/
def derDeepUptoRow : OpenClaim := { program := "ytpphoifjhhidfaa", sum := "a8527112c7a608f4a6399252475d351e96c6f987edca9a0c958ffa70291e7cd3", func := "sluiceway/sluicewaylaw01.DerDeep", spec := "derDeep", unfollowed := true, recurses := true, apart := false, narrowed := true }
def DerDeepUptoSaid : Prop := derDeepUptoRow.holds Try.pinned (OpenSpec.upto derDeepSpec)

/-- 'sluicewaylaw01.DerUnlike', WHERE WHAT IT READS IS OF BULK AT MOST 1048576: true; the input reads as it did. -/
def derUnlikeUptoRow : OpenClaim := { program := "ytpphoifjhhidfaa", sum := "a8527112c7a608f4a6399252475d351e96c6f987edca9a0c958ffa70291e7cd3", func := "sluiceway/sluicewaylaw01.DerUnlike", spec := "derUnlike", unfollowed := true, recurses := true, loops := true, apart := false, narrowed := true }
def DerUnlikeUptoSaid : Prop := derUnlikeUptoRow.holds Try.pinned (OpenSpec.upto derUnlikeSpec)

/-- 'sluicewaylaw01.DerCuts', WHERE WHAT IT READS IS OF BULK AT MOST 1048576: true; the input reads as it did. -/
def derCutsUptoRow : OpenClaim := { program := "ytpphoifjhhidfaa", sum := "a8527112c7a608f4a6399252475d351e96c6f987edca9a0c958ffa70291e7cd3", func := "sluiceway/sluicewaylaw01.DerCuts", spec := "derCuts", unfollowed := true, recurses := true, loops := true, apart := false, narrowed := true }
def DerCutsUptoSaid : Prop := derCutsUptoRow.holds Try.pinned (OpenSpec.upto derCutsSpec)

/-- 'sluicewaylaw01.DerTexts', WHERE WHAT IT READS IS OF BULK AT MOST 1048576: true; the input reads as it did. -/
def derTextsUptoRow : OpenClaim := { program := "ytpphoifjhhidfaa", sum := "a8527112c7a608f4a6399252475d351e96c6f987edca9a0c958ffa70291e7cd3", func := "sluiceway/sluicewaylaw01.DerTexts", spec := "derTexts", unfollowed := true, recurses := true, apart := false, narrowed := true }
def DerTextsUptoSaid : Prop := derTextsUptoRow.holds Try.pinned (OpenSpec.upto derTextsSpec)

/-- 'sluicewaylaw01.DerOthers', WHERE WHAT IT READS IS OF BULK AT MOST 1048576: true; the input reads as it did. -/
def derOthersUptoRow : OpenClaim := { program := "ytpphoifjhhidfaa", sum := "a8527112c7a608f4a6399252475d351e96c6f987edca9a0c958ffa70291e7cd3", func := "sluiceway/sluicewaylaw01.DerOthers", spec := "derOthers", unfollowed := true, recurses := true, apart := false, narrowed := true }
def DerOthersUptoSaid : Prop := derOthersUptoRow.holds Try.pinned (OpenSpec.upto derOthersSpec)

/-- 'sluicewaylaw01.DerTruths', WHERE WHAT IT READS IS OF BULK AT MOST 1048576: true; the input reads as it did. -/
def derTruthsUptoRow : OpenClaim := { program := "ytpphoifjhhidfaa", sum := "a8527112c7a608f4a6399252475d351e96c6f987edca9a0c958ffa70291e7cd3", func := "sluiceway/sluicewaylaw01.DerTruths", spec := "derTruths", unfollowed := true, recurses := true, apart := false, narrowed := true }
def DerTruthsUptoSaid : Prop := derTruthsUptoRow.holds Try.pinned (OpenSpec.upto derTruthsSpec)

/-- 'sluicewaylaw01.DerSigns', WHERE WHAT IT READS IS OF BULK AT MOST 1048576: true; the input reads as it did. -/
def derSignsUptoRow : OpenClaim := { program := "ytpphoifjhhidfaa", sum := "a8527112c7a608f4a6399252475d351e96c6f987edca9a0c958ffa70291e7cd3", func := "sluiceway/sluicewaylaw01.DerSigns", spec := "derSigns", unfollowed := true, recurses := true, apart := false, narrowed := true }
def DerSignsUptoSaid : Prop := derSignsUptoRow.holds Try.pinned (OpenSpec.upto derSignsSpec)

end Rows
end Go.Proofs.Ytpphoifjhhidfaa
