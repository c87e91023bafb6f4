/-
  No cell of these rows narrows 'for every input' (looked for: loops, veiled, ifaces, maps, wideKeys, modest, calm, conditions, laid).
  DERIVED. THE GIVEN ROWS OF THIS SEAT. 17 by the template 'for every input the law returns true; each argument reads behind the call as it read before'; 0 by the template 'total and deterministic' (their statements: YtijnmoceafcamaaTotals.lean).
  GIVEN WITH THE SEED: the statements are not yours to turn. If you find one false, say at which input.
  Laid BY PROGRAM, IN A SANDBOX (cutbox-rows.mjs): the forced cells as the released guide's own fill.sh prints them over the translation c86c16b82bcb44dc… (all of the seat's roots in one cut). By AI agents, Wed Nov 11 2026. No macro, syntax, notation, axiom, sorry.
-/
import Derived.Test.YtijnmoceafcamaaChecked
import GoSem.Claim
import GoSem.ClaimJoined
import GoSem.ClaimMapViews
import Derived.JoinedTies
import Derived.KernelRfl
namespace Go.Proofs.Ytijnmoceafcamaa
/- THE CELL 'sum', in the pinned program and in every row, IS THE sha256 OF THE DUMP (.gsa) THAT YtijnmoceafcamaaProg.lean LOADS. Nothing in Lean hashes anything: it is a label: what it is worth is what the hold of that sum in a sandbox is worth. -/
noncomputable def Try.pinned : Pinned := { name := "ytijnmoceafcamaa", sum := "c86c16b82bcb44dc9557e0efd76c76d44648b18d8d24b2ca7c17eec3e7fe079f", checked := Try.checked }
namespace Rows
def none {H : Type} : Left H := { results := [], args := [] }

/-- 'sluicewaylaw02.ShaSums': WHATEVER THE INPUT: true; the input reads as it did. -/
def shaSumsSpec : ChangeSpec := { name := "shaSums", fn := fun _ => fun
  | [d] => { results := [.lit (.bool true)], args := [d] }
  | _ => none }
def shaSumsRow : OpenClaim := { program := "ytijnmoceafcamaa", sum := "c86c16b82bcb44dc9557e0efd76c76d44648b18d8d24b2ca7c17eec3e7fe079f", func := "sluiceway/sluicewaylaw02.ShaSums", spec := "shaSums", apart := false }
def ShaSumsSaid : Prop := shaSumsRow.holds Try.pinned (OpenSpec.ofChange shaSumsSpec)

/-- ITS FALSE NEIGHBOUR: 'it returns false'. Refute it at one input. -/
def shaSumsWrong : ChangeSpec := { name := "shaSums", fn := fun _ => fun
  | [d] => { results := [.lit (.bool false)], args := [d] }
  | _ => none }
def ShaSumsWrongFalsely : Prop := shaSumsRow.holds Try.pinned (OpenSpec.ofChange shaSumsWrong)

/-- 'sluicewaylaw02.ShaPieces': WHATEVER THE INPUT: true; the input reads as it did. -/
def shaPiecesSpec : ChangeSpec := { name := "shaPieces", fn := fun _ => fun
  | [d] => { results := [.lit (.bool true)], args := [d] }
  | _ => none }
def shaPiecesRow : OpenClaim := { program := "ytijnmoceafcamaa", sum := "c86c16b82bcb44dc9557e0efd76c76d44648b18d8d24b2ca7c17eec3e7fe079f", func := "sluiceway/sluicewaylaw02.ShaPieces", spec := "shaPieces", apart := false }
def ShaPiecesSaid : Prop := shaPiecesRow.holds Try.pinned (OpenSpec.ofChange shaPiecesSpec)

/-- ITS FALSE NEIGHBOUR: 'it returns false'. Refute it at one input. -/
def shaPiecesWrong : ChangeSpec := { name := "shaPieces", fn := fun _ => fun
  | [d] => { results := [.lit (.bool false)], args := [d] }
  | _ => none }
def ShaPiecesWrongFalsely : Prop := shaPiecesRow.holds Try.pinned (OpenSpec.ofChange shaPiecesWrong)

/-- 'sluicewaylaw02.ShaClones': WHATEVER THE INPUT: true; the input reads as it did. -/
def shaClonesSpec : ChangeSpec := { name := "shaClones", fn := fun _ => fun
  | [d1, d2, d3] => { results := [.lit (.bool true)], args := [d1, d2, d3] }
  | _ => none }
def shaClonesRow : OpenClaim := { program := "ytijnmoceafcamaa", sum := "c86c16b82bcb44dc9557e0efd76c76d44648b18d8d24b2ca7c17eec3e7fe079f", func := "sluiceway/sluicewaylaw02.ShaClones", spec := "shaClones", apart := false }
def ShaClonesSaid : Prop := shaClonesRow.holds Try.pinned (OpenSpec.ofChange shaClonesSpec)

/-- ITS FALSE NEIGHBOUR: 'it returns false'. Refute it at one input. -/
def shaClonesWrong : ChangeSpec := { name := "shaClones", fn := fun _ => fun
  | [d1, d2, d3] => { results := [.lit (.bool false)], args := [d1, d2, d3] }
  | _ => none }
def ShaClonesWrongFalsely : Prop := shaClonesRow.holds Try.pinned (OpenSpec.ofChange shaClonesWrong)

/-- 'sluicewaylaw02.ShaLengths': WHATEVER THE INPUT: true; the input reads as it did. -/
def shaLengthsSpec : ChangeSpec := { name := "shaLengths", fn := fun _ => fun
  | [d1, d2] => { results := [.lit (.bool true)], args := [d1, d2] }
  | _ => none }
def shaLengthsRow : OpenClaim := { program := "ytijnmoceafcamaa", sum := "c86c16b82bcb44dc9557e0efd76c76d44648b18d8d24b2ca7c17eec3e7fe079f", func := "sluiceway/sluicewaylaw02.ShaLengths", spec := "shaLengths", apart := false }
def ShaLengthsSaid : Prop := shaLengthsRow.holds Try.pinned (OpenSpec.ofChange shaLengthsSpec)

/-- ITS FALSE NEIGHBOUR: 'it returns false'. Refute it at one input. -/
def shaLengthsWrong : ChangeSpec := { name := "shaLengths", fn := fun _ => fun
  | [d1, d2] => { results := [.lit (.bool false)], args := [d1, d2] }
  | _ => none }
def ShaLengthsWrongFalsely : Prop := shaLengthsRow.holds Try.pinned (OpenSpec.ofChange shaLengthsWrong)

/-- 'sluicewaylaw02.ShaNothing': WHATEVER THE INPUT: true; the input reads as it did. -/
def shaNothingSpec : ChangeSpec := { name := "shaNothing", fn := fun _ => fun
  | [d1, d2] => { results := [.lit (.bool true)], args := [d1, d2] }
  | _ => none }
def shaNothingRow : OpenClaim := { program := "ytijnmoceafcamaa", sum := "c86c16b82bcb44dc9557e0efd76c76d44648b18d8d24b2ca7c17eec3e7fe079f", func := "sluiceway/sluicewaylaw02.ShaNothing", spec := "shaNothing", apart := false }
def ShaNothingSaid : Prop := shaNothingRow.holds Try.pinned (OpenSpec.ofChange shaNothingSpec)

/-- ITS FALSE NEIGHBOUR: 'it returns false'. Refute it at one input. -/
def shaNothingWrong : ChangeSpec := { name := "shaNothing", fn := fun _ => fun
  | [d1, d2] => { results := [.lit (.bool false)], args := [d1, d2] }
  | _ => none }
def ShaNothingWrongFalsely : Prop := shaNothingRow.holds Try.pinned (OpenSpec.ofChange shaNothingWrong)

/-- 'sluicewaylaw02.ShaChunks': WHATEVER THE INPUT: true; the input reads as it did. -/
def shaChunksSpec : ChangeSpec := { name := "shaChunks", fn := fun _ => fun
  | [d1, d2] => { results := [.lit (.bool true)], args := [d1, d2] }
  | _ => none }
def shaChunksRow : OpenClaim := { program := "ytijnmoceafcamaa", sum := "c86c16b82bcb44dc9557e0efd76c76d44648b18d8d24b2ca7c17eec3e7fe079f", func := "sluiceway/sluicewaylaw02.ShaChunks", spec := "shaChunks", apart := false }
def ShaChunksSaid : Prop := shaChunksRow.holds Try.pinned (OpenSpec.ofChange shaChunksSpec)

/-- ITS FALSE NEIGHBOUR: 'it returns false'. Refute it at one input. -/
def shaChunksWrong : ChangeSpec := { name := "shaChunks", fn := fun _ => fun
  | [d1, d2] => { results := [.lit (.bool false)], args := [d1, d2] }
  | _ => none }
def ShaChunksWrongFalsely : Prop := shaChunksRow.holds Try.pinned (OpenSpec.ofChange shaChunksWrong)

/-- 'sluicewaylaw03.MacKeys': WHATEVER THE INPUT: true; the input reads as it did. -/
def macKeysSpec : ChangeSpec := { name := "macKeys", fn := fun _ => fun
  | [d1, d2, d3, d4] => { results := [.lit (.bool true)], args := [d1, d2, d3, d4] }
  | _ => none }
def macKeysRow : OpenClaim := { program := "ytijnmoceafcamaa", sum := "c86c16b82bcb44dc9557e0efd76c76d44648b18d8d24b2ca7c17eec3e7fe079f", func := "sluiceway/sluicewaylaw03.MacKeys", spec := "macKeys", unfollowed := true, recurses := true, apart := false }
def MacKeysSaid : Prop := macKeysRow.holds Try.pinned (OpenSpec.ofChange macKeysSpec)

/-- ITS FALSE NEIGHBOUR: 'it returns false'. Refute it at one input. -/
def macKeysWrong : ChangeSpec := { name := "macKeys", fn := fun _ => fun
  | [d1, d2, d3, d4] => { results := [.lit (.bool false)], args := [d1, d2, d3, d4] }
  | _ => none }
def MacKeysWrongFalsely : Prop := macKeysRow.holds Try.pinned (OpenSpec.ofChange macKeysWrong)

/-- 'sluicewaylaw03.MacTwice': WHATEVER THE INPUT: true; the input reads as it did. -/
def macTwiceSpec : ChangeSpec := { name := "macTwice", fn := fun _ => fun
  | [d1, d2] => { results := [.lit (.bool true)], args := [d1, d2] }
  | _ => none }
def macTwiceRow : OpenClaim := { program := "ytijnmoceafcamaa", sum := "c86c16b82bcb44dc9557e0efd76c76d44648b18d8d24b2ca7c17eec3e7fe079f", func := "sluiceway/sluicewaylaw03.MacTwice", spec := "macTwice", unfollowed := true, recurses := true, apart := false }
def MacTwiceSaid : Prop := macTwiceRow.holds Try.pinned (OpenSpec.ofChange macTwiceSpec)

/-- ITS FALSE NEIGHBOUR: 'it returns false'. Refute it at one input. -/
def macTwiceWrong : ChangeSpec := { name := "macTwice", fn := fun _ => fun
  | [d1, d2] => { results := [.lit (.bool false)], args := [d1, d2] }
  | _ => none }
def MacTwiceWrongFalsely : Prop := macTwiceRow.holds Try.pinned (OpenSpec.ofChange macTwiceWrong)

/-- 'sluicewaylaw03.MacStates': WHATEVER THE INPUT: true; the input reads as it did. -/
def macStatesSpec : ChangeSpec := { name := "macStates", fn := fun _ => fun
  | [d1, d2] => { results := [.lit (.bool true)], args := [d1, d2] }
  | _ => none }
def macStatesRow : OpenClaim := { program := "ytijnmoceafcamaa", sum := "c86c16b82bcb44dc9557e0efd76c76d44648b18d8d24b2ca7c17eec3e7fe079f", func := "sluiceway/sluicewaylaw03.MacStates", spec := "macStates", unfollowed := true, recurses := true, apart := false }
def MacStatesSaid : Prop := macStatesRow.holds Try.pinned (OpenSpec.ofChange macStatesSpec)

/-- ITS FALSE NEIGHBOUR: 'it returns false'. Refute it at one input. -/
def macStatesWrong : ChangeSpec := { name := "macStates", fn := fun _ => fun
  | [d1, d2] => { results := [.lit (.bool false)], args := [d1, d2] }
  | _ => none }
def MacStatesWrongFalsely : Prop := macStatesRow.holds Try.pinned (OpenSpec.ofChange macStatesWrong)

/-- 'sluicewaylaw03.MacSums': WHATEVER THE INPUT: true; the input reads as it did. -/
def macSumsSpec : ChangeSpec := { name := "macSums", fn := fun _ => fun
  | [d1, d2, d3] => { results := [.lit (.bool true)], args := [d1, d2, d3] }
  | _ => none }
def macSumsRow : OpenClaim := { program := "ytijnmoceafcamaa", sum := "c86c16b82bcb44dc9557e0efd76c76d44648b18d8d24b2ca7c17eec3e7fe079f", func := "sluiceway/sluicewaylaw03.MacSums", spec := "macSums", unfollowed := true, recurses := true, apart := false }
def MacSumsSaid : Prop := macSumsRow.holds Try.pinned (OpenSpec.ofChange macSumsSpec)

/-- ITS FALSE NEIGHBOUR: 'it returns false'. Refute it at one input. -/
def macSumsWrong : ChangeSpec := { name := "macSums", fn := fun _ => fun
  | [d1, d2, d3] => { results := [.lit (.bool false)], args := [d1, d2, d3] }
  | _ => none }
def MacSumsWrongFalsely : Prop := macSumsRow.holds Try.pinned (OpenSpec.ofChange macSumsWrong)

/-- 'sluicewaylaw03.MacEqual': WHATEVER THE INPUT: true; the input reads as it did. -/
def macEqualSpec : ChangeSpec := { name := "macEqual", fn := fun _ => fun
  | [d1, d2, d3] => { results := [.lit (.bool true)], args := [d1, d2, d3] }
  | _ => none }
def macEqualRow : OpenClaim := { program := "ytijnmoceafcamaa", sum := "c86c16b82bcb44dc9557e0efd76c76d44648b18d8d24b2ca7c17eec3e7fe079f", func := "sluiceway/sluicewaylaw03.MacEqual", spec := "macEqual", unfollowed := true, recurses := true, apart := false }
def MacEqualSaid : Prop := macEqualRow.holds Try.pinned (OpenSpec.ofChange macEqualSpec)

/-- ITS FALSE NEIGHBOUR: 'it returns false'. Refute it at one input. -/
def macEqualWrong : ChangeSpec := { name := "macEqual", fn := fun _ => fun
  | [d1, d2, d3] => { results := [.lit (.bool false)], args := [d1, d2, d3] }
  | _ => none }
def MacEqualWrongFalsely : Prop := macEqualRow.holds Try.pinned (OpenSpec.ofChange macEqualWrong)

/-- 'sluicewaylaw03.MacAgain': WHATEVER THE INPUT: true; the input reads as it did. -/
def macAgainSpec : ChangeSpec := { name := "macAgain", fn := fun _ => fun
  | [d1, d2, d3, d4] => { results := [.lit (.bool true)], args := [d1, d2, d3, d4] }
  | _ => none }
def macAgainRow : OpenClaim := { program := "ytijnmoceafcamaa", sum := "c86c16b82bcb44dc9557e0efd76c76d44648b18d8d24b2ca7c17eec3e7fe079f", func := "sluiceway/sluicewaylaw03.MacAgain", spec := "macAgain", unfollowed := true, recurses := true, apart := false }
def MacAgainSaid : Prop := macAgainRow.holds Try.pinned (OpenSpec.ofChange macAgainSpec)

/-- ITS FALSE NEIGHBOUR: 'it returns false'. Refute it at one input. -/
def macAgainWrong : ChangeSpec := { name := "macAgain", fn := fun _ => fun
  | [d1, d2, d3, d4] => { results := [.lit (.bool false)], args := [d1, d2, d3, d4] }
  | _ => none }
def MacAgainWrongFalsely : Prop := macAgainRow.holds Try.pinned (OpenSpec.ofChange macAgainWrong)

/-- 'sluicewaylaw05.WindowOnce': WHATEVER THE INPUT: true; the input reads as it did. -/
def windowOnceSpec : ChangeSpec := { name := "windowOnce", fn := fun _ => fun
  | [d1, d2] => { results := [.lit (.bool true)], args := [d1, d2] }
  | _ => none }
def windowOnceRow : OpenClaim := { program := "ytijnmoceafcamaa", sum := "c86c16b82bcb44dc9557e0efd76c76d44648b18d8d24b2ca7c17eec3e7fe079f", func := "sluiceway/sluicewaylaw05.WindowOnce", spec := "windowOnce", unfollowed := true, recurses := true, apart := false }
def WindowOnceSaid : Prop := windowOnceRow.holds Try.pinned (OpenSpec.ofChange windowOnceSpec)

/-- ITS FALSE NEIGHBOUR: 'it returns false'. Refute it at one input. -/
def windowOnceWrong : ChangeSpec := { name := "windowOnce", fn := fun _ => fun
  | [d1, d2] => { results := [.lit (.bool false)], args := [d1, d2] }
  | _ => none }
def WindowOnceWrongFalsely : Prop := windowOnceRow.holds Try.pinned (OpenSpec.ofChange windowOnceWrong)

/-- 'sluicewaylaw05.WindowLocks': WHATEVER THE INPUT: true; the input reads as it did. -/
def windowLocksSpec : ChangeSpec := { name := "windowLocks", fn := fun _ => fun
  | [d1, d2] => { results := [.lit (.bool true)], args := [d1, d2] }
  | _ => none }
def windowLocksRow : OpenClaim := { program := "ytijnmoceafcamaa", sum := "c86c16b82bcb44dc9557e0efd76c76d44648b18d8d24b2ca7c17eec3e7fe079f", func := "sluiceway/sluicewaylaw05.WindowLocks", spec := "windowLocks", unfollowed := true, recurses := true, apart := false }
def WindowLocksSaid : Prop := windowLocksRow.holds Try.pinned (OpenSpec.ofChange windowLocksSpec)

/-- ITS FALSE NEIGHBOUR: 'it returns false'. Refute it at one input. -/
def windowLocksWrong : ChangeSpec := { name := "windowLocks", fn := fun _ => fun
  | [d1, d2] => { results := [.lit (.bool false)], args := [d1, d2] }
  | _ => none }
def WindowLocksWrongFalsely : Prop := windowLocksRow.holds Try.pinned (OpenSpec.ofChange windowLocksWrong)

/-- 'sluicewaylaw05.WindowTells': WHATEVER THE INPUT: true; the input reads as it did. -/
def windowTellsSpec : ChangeSpec := { name := "windowTells", fn := fun _ => fun
  | [d1, d2] => { results := [.lit (.bool true)], args := [d1, d2] }
  | _ => none }
def windowTellsRow : OpenClaim := { program := "ytijnmoceafcamaa", sum := "c86c16b82bcb44dc9557e0efd76c76d44648b18d8d24b2ca7c17eec3e7fe079f", func := "sluiceway/sluicewaylaw05.WindowTells", spec := "windowTells", unfollowed := true, recurses := true, apart := false }
def WindowTellsSaid : Prop := windowTellsRow.holds Try.pinned (OpenSpec.ofChange windowTellsSpec)

/-- ITS FALSE NEIGHBOUR: 'it returns false'. Refute it at one input. -/
def windowTellsWrong : ChangeSpec := { name := "windowTells", fn := fun _ => fun
  | [d1, d2] => { results := [.lit (.bool false)], args := [d1, d2] }
  | _ => none }
def WindowTellsWrongFalsely : Prop := windowTellsRow.holds Try.pinned (OpenSpec.ofChange windowTellsWrong)

/-- 'sluicewaylaw05.WindowHits': WHATEVER THE INPUT: true; the input reads as it did. -/
def windowHitsSpec : ChangeSpec := { name := "windowHits", fn := fun _ => fun
  | [d1, d2, d3] => { results := [.lit (.bool true)], args := [d1, d2, d3] }
  | _ => none }
def windowHitsRow : OpenClaim := { program := "ytijnmoceafcamaa", sum := "c86c16b82bcb44dc9557e0efd76c76d44648b18d8d24b2ca7c17eec3e7fe079f", func := "sluiceway/sluicewaylaw05.WindowHits", spec := "windowHits", unfollowed := true, recurses := true, apart := false }
def WindowHitsSaid : Prop := windowHitsRow.holds Try.pinned (OpenSpec.ofChange windowHitsSpec)

/-- ITS FALSE NEIGHBOUR: 'it returns false'. Refute it at one input. -/
def windowHitsWrong : ChangeSpec := { name := "windowHits", fn := fun _ => fun
  | [d1, d2, d3] => { results := [.lit (.bool false)], args := [d1, d2, d3] }
  | _ => none }
def WindowHitsWrongFalsely : Prop := windowHitsRow.holds Try.pinned (OpenSpec.ofChange windowHitsWrong)

/-- 'sluicewaylaw05.WindowTries': WHATEVER THE INPUT: true; the input reads as it did. -/
def windowTriesSpec : ChangeSpec := { name := "windowTries", fn := fun _ => fun
  | [d1, d2, d3, d4, d5] => { results := [.lit (.bool true)], args := [d1, d2, d3, d4, d5] }
  | _ => none }
def windowTriesRow : OpenClaim := { program := "ytijnmoceafcamaa", sum := "c86c16b82bcb44dc9557e0efd76c76d44648b18d8d24b2ca7c17eec3e7fe079f", func := "sluiceway/sluicewaylaw05.WindowTries", spec := "windowTries", unfollowed := true, recurses := true, apart := false }
def WindowTriesSaid : Prop := windowTriesRow.holds Try.pinned (OpenSpec.ofChange windowTriesSpec)

/-- ITS FALSE NEIGHBOUR: 'it returns false'. Refute it at one input. -/
def windowTriesWrong : ChangeSpec := { name := "windowTries", fn := fun _ => fun
  | [d1, d2, d3, d4, d5] => { results := [.lit (.bool false)], args := [d1, d2, d3, d4, d5] }
  | _ => none }
def WindowTriesWrongFalsely : Prop := windowTriesRow.holds Try.pinned (OpenSpec.ofChange windowTriesWrong)

/- THE SECOND FORM. 'bulk': how many values and letters a reading holds, each counted each time it is reached (what is shared counts as often as it is met; a slice's spare places count too). A statement '..UptoSaid' is the law's where the arguments, and the package variables that the reading takes, are together of bulk at most 1048576: NARROWER than '..Said'. Prove '..Said' where nothing that the law and all that it calls make is longer than what came in: it says more and counts as full. Else prove '..UptoSaid'. A law counts once. -/
mutual
def uptoBulk {H : Type} : DataW H → Nat
  | .lit (.string bytes) => bytes.length + 1
  | .lit _ => 1
  | .nil => 1
  | .ptr d => uptoBulk d + 1
  | .slice elems spare => uptoBulkAll elems + uptoBulkAll spare + 1
  | .agg parts => uptoBulkAll parts + 1
  | .iface _ d => uptoBulk d + 1
  | .map entries => uptoBulkEntries entries + 1
  | .held _ => 1
def uptoBulkAll {H : Type} : List (DataW H) → Nat
  | [] => 0
  | d :: r => uptoBulk d + uptoBulkAll r
def uptoBulkEntries {H : Type} : List (Lit × DataW H) → Nat
  | [] => 0
  | x :: r => uptoBulkEntry x + uptoBulkEntries r
def uptoBulkEntry {H : Type} : Lit × DataW H → Nat
  | (.string bytes, d) => bytes.length + uptoBulk d + 1
  | (_, d) => uptoBulk d + 1
 end
def uptoSmall : (H : Type) → List (DataW H) → Bool := fun _ ds => decide (uptoBulkAll ds ≤ 1048576)
def OpenSpec.upto (s : _root_.Go.ChangeSpec) : _root_.Go.OpenSpec := { _root_.Go.OpenSpec.ofChange s with cond := some uptoSmall }

/-- 'sluicewaylaw02.ShaSums', WHERE WHAT IT READS IS OF BULK AT MOST 1048576: true; the input reads as it did. -/
def shaSumsUptoRow : OpenClaim := { program := "ytijnmoceafcamaa", sum := "c86c16b82bcb44dc9557e0efd76c76d44648b18d8d24b2ca7c17eec3e7fe079f", func := "sluiceway/sluicewaylaw02.ShaSums", spec := "shaSums", apart := false, narrowed := true }
def ShaSumsUptoSaid : Prop := shaSumsUptoRow.holds Try.pinned (OpenSpec.upto shaSumsSpec)

/-- 'sluicewaylaw02.ShaPieces', WHERE WHAT IT READS IS OF BULK AT MOST 1048576: true; the input reads as it did. -/
def shaPiecesUptoRow : OpenClaim := { program := "ytijnmoceafcamaa", sum := "c86c16b82bcb44dc9557e0efd76c76d44648b18d8d24b2ca7c17eec3e7fe079f", func := "sluiceway/sluicewaylaw02.ShaPieces", spec := "shaPieces", apart := false, narrowed := true }
def ShaPiecesUptoSaid : Prop := shaPiecesUptoRow.holds Try.pinned (OpenSpec.upto shaPiecesSpec)

/-- 'sluicewaylaw02.ShaClones', WHERE WHAT IT READS IS OF BULK AT MOST 1048576: true; the input reads as it did. -/
def shaClonesUptoRow : OpenClaim := { program := "ytijnmoceafcamaa", sum := "c86c16b82bcb44dc9557e0efd76c76d44648b18d8d24b2ca7c17eec3e7fe079f", func := "sluiceway/sluicewaylaw02.ShaClones", spec := "shaClones", apart := false, narrowed := true }
def ShaClonesUptoSaid : Prop := shaClonesUptoRow.holds Try.pinned (OpenSpec.upto shaClonesSpec)

/-- 'sluicewaylaw02.ShaLengths', WHERE WHAT IT READS IS OF BULK AT MOST 1048576: true; the input reads as it did. -/
def shaLengthsUptoRow : OpenClaim := { program := "ytijnmoceafcamaa", sum := "c86c16b82bcb44dc9557e0efd76c76d44648b18d8d24b2ca7c17eec3e7fe079f", func := "sluiceway/sluicewaylaw02.ShaLengths", spec := "shaLengths", apart := false, narrowed := true }
def ShaLengthsUptoSaid : Prop := shaLengthsUptoRow.holds Try.pinned (OpenSpec.upto shaLengthsSpec)

/-- 'sluicewaylaw02.ShaNothing', WHERE WHAT IT READS IS OF BULK AT MOST 1048576: true; the input reads as it did. -/
def shaNothingUptoRow : OpenClaim := { program := "ytijnmoceafcamaa", sum := "c86c16b82bcb44dc9557e0efd76c76d44648b18d8d24b2ca7c17eec3e7fe079f", func := "sluiceway/sluicewaylaw02.ShaNothing", spec := "shaNothing", apart := false, narrowed := true }
def ShaNothingUptoSaid : Prop := shaNothingUptoRow.holds Try.pinned (OpenSpec.upto shaNothingSpec)

/-- 'sluicewaylaw02.ShaChunks', WHERE WHAT IT READS IS OF BULK AT MOST 1048576: true; the input reads as it did. -/
def shaChunksUptoRow : OpenClaim := { program := "ytijnmoceafcamaa", sum := "c86c16b82bcb44dc9557e0efd76c76d44648b18d8d24b2ca7c17eec3e7fe079f", func := "sluiceway/sluicewaylaw02.ShaChunks", spec := "shaChunks", apart := false, narrowed := true }
def ShaChunksUptoSaid : Prop := shaChunksUptoRow.holds Try.pinned (OpenSpec.upto shaChunksSpec)

/-- 'sluicewaylaw03.MacKeys', WHERE WHAT IT READS IS OF BULK AT MOST 1048576: true; the input reads as it did. -/
def macKeysUptoRow : OpenClaim := { program := "ytijnmoceafcamaa", sum := "c86c16b82bcb44dc9557e0efd76c76d44648b18d8d24b2ca7c17eec3e7fe079f", func := "sluiceway/sluicewaylaw03.MacKeys", spec := "macKeys", unfollowed := true, recurses := true, apart := false, narrowed := true }
def MacKeysUptoSaid : Prop := macKeysUptoRow.holds Try.pinned (OpenSpec.upto macKeysSpec)

/-- 'sluicewaylaw03.MacTwice', WHERE WHAT IT READS IS OF BULK AT MOST 1048576: true; the input reads as it did. -/
def macTwiceUptoRow : OpenClaim := { program := "ytijnmoceafcamaa", sum := "c86c16b82bcb44dc9557e0efd76c76d44648b18d8d24b2ca7c17eec3e7fe079f", func := "sluiceway/sluicewaylaw03.MacTwice", spec := "macTwice", unfollowed := true, recurses := true, apart := false, narrowed := true }
def MacTwiceUptoSaid : Prop := macTwiceUptoRow.holds Try.pinned (OpenSpec.upto macTwiceSpec)

/-- 'sluicewaylaw03.MacStates', WHERE WHAT IT READS IS OF BULK AT MOST 1048576: true; the input reads as it did. -/
def macStatesUptoRow : OpenClaim := { program := "ytijnmoceafcamaa", sum := "c86c16b82bcb44dc9557e0efd76c76d44648b18d8d24b2ca7c17eec3e7fe079f", func := "sluiceway/sluicewaylaw03.MacStates", spec := "macStates", unfollowed := true, recurses := true, apart := false, narrowed := true }
def MacStatesUptoSaid : Prop := macStatesUptoRow.holds Try.pinned (OpenSpec.upto macStatesSpec)

/-- 'sluicewaylaw03.MacSums', WHERE WHAT IT READS IS OF BULK AT MOST 1048576: true; the input reads as it did. -/
def macSumsUptoRow : OpenClaim := { program := "ytijnmoceafcamaa", sum := "c86c16b82bcb44dc9557e0efd76c76d44648b18d8d24b2ca7c17eec3e7fe079f", func := "sluiceway/sluicewaylaw03.MacSums", spec := "macSums", unfollowed := true, recurses := true, apart := false, narrowed := true }
def MacSumsUptoSaid : Prop := macSumsUptoRow.holds Try.pinned (OpenSpec.upto macSumsSpec)

/-- 'sluicewaylaw03.MacEqual', WHERE WHAT IT READS IS OF BULK AT MOST 1048576: true; the input reads as it did. -/
def macEqualUptoRow : OpenClaim := { program := "ytijnmoceafcamaa", sum := "c86c16b82bcb44dc9557e0efd76c76d44648b18d8d24b2ca7c17eec3e7fe079f", func := "sluiceway/sluicewaylaw03.MacEqual", spec := "macEqual", unfollowed := true, recurses := true, apart := false, narrowed := true }
def MacEqualUptoSaid : Prop := macEqualUptoRow.holds Try.pinned (OpenSpec.upto macEqualSpec)

/-- 'sluicewaylaw03.MacAgain', WHERE WHAT IT READS IS OF BULK AT MOST 1048576: true; the input reads as it did. -/
def macAgainUptoRow : OpenClaim := { program := "ytijnmoceafcamaa", sum := "c86c16b82bcb44dc9557e0efd76c76d44648b18d8d24b2ca7c17eec3e7fe079f", func := "sluiceway/sluicewaylaw03.MacAgain", spec := "macAgain", unfollowed := true, recurses := true, apart := false, narrowed := true }
def MacAgainUptoSaid : Prop := macAgainUptoRow.holds Try.pinned (OpenSpec.upto macAgainSpec)

/-- 'sluicewaylaw05.WindowOnce', WHERE WHAT IT READS IS OF BULK AT MOST 1048576: true; the input reads as it did. -/
def windowOnceUptoRow : OpenClaim := { program := "ytijnmoceafcamaa", sum := "c86c16b82bcb44dc9557e0efd76c76d44648b18d8d24b2ca7c17eec3e7fe079f", func := "sluiceway/sluicewaylaw05.WindowOnce", spec := "windowOnce", unfollowed := true, recurses := true, apart := false, narrowed := true }
def WindowOnceUptoSaid : Prop := windowOnceUptoRow.holds Try.pinned (OpenSpec.upto windowOnceSpec)

/-- 'sluicewaylaw05.WindowLocks', WHERE WHAT IT READS IS OF BULK AT MOST 1048576: true; the input reads as it did. -/
def windowLocksUptoRow : OpenClaim := { program := "ytijnmoceafcamaa", sum := "c86c16b82bcb44dc9557e0efd76c76d44648b18d8d24b2ca7c17eec3e7fe079f", func := "sluiceway/sluicewaylaw05.WindowLocks", spec := "windowLocks", unfollowed := true, recurses := true, apart := false, narrowed := true }
def WindowLocksUptoSaid : Prop := windowLocksUptoRow.holds Try.pinned (OpenSpec.upto windowLocksSpec)

/-- 'sluicewaylaw05.WindowTells', WHERE WHAT IT READS IS OF BULK AT MOST 1048576: true; the input reads as it did. -/
def windowTellsUptoRow : OpenClaim := { program := "ytijnmoceafcamaa", sum := "c86c16b82bcb44dc9557e0efd76c76d44648b18d8d24b2ca7c17eec3e7fe079f", func := "sluiceway/sluicewaylaw05.WindowTells", spec := "windowTells", unfollowed := true, recurses := true, apart := false, narrowed := true }
def WindowTellsUptoSaid : Prop := windowTellsUptoRow.holds Try.pinned (OpenSpec.upto windowTellsSpec)

/-- 'sluicewaylaw05.WindowHits', WHERE WHAT IT READS IS OF BULK AT MOST 1048576: true; the input reads as it did. -/
def windowHitsUptoRow : OpenClaim := { program := "ytijnmoceafcamaa", sum := "c86c16b82bcb44dc9557e0efd76c76d44648b18d8d24b2ca7c17eec3e7fe079f", func := "sluiceway/sluicewaylaw05.WindowHits", spec := "windowHits", unfollowed := true, recurses := true, apart := false, narrowed := true }
def WindowHitsUptoSaid : Prop := windowHitsUptoRow.holds Try.pinned (OpenSpec.upto windowHitsSpec)

/-- 'sluicewaylaw05.WindowTries', WHERE WHAT IT READS IS OF BULK AT MOST 1048576: true; the input reads as it did. -/
def windowTriesUptoRow : OpenClaim := { program := "ytijnmoceafcamaa", sum := "c86c16b82bcb44dc9557e0efd76c76d44648b18d8d24b2ca7c17eec3e7fe079f", func := "sluiceway/sluicewaylaw05.WindowTries", spec := "windowTries", unfollowed := true, recurses := true, apart := false, narrowed := true }
def WindowTriesUptoSaid : Prop := windowTriesUptoRow.holds Try.pinned (OpenSpec.upto windowTriesSpec)

end Rows
end Go.Proofs.Ytijnmoceafcamaa
