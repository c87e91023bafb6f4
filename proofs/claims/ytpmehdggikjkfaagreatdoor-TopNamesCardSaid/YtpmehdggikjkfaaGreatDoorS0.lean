/- The heap that the call finds; what 'works' makes of it. -/
import Derived.Test.YtpmehdggikjkfaaGreatDoorEntsB
namespace Go.Proofs.YtpmehdggikjkfaaGreatDoor.Rf
open Go
/- term.kinds, and strconv's powers of ten -/
def kindsC : List Value := [.string ⟨⟨[]⟩⟩, .int .i64 0, .bool false, .string ⟨⟨[100]⟩⟩, .int .i64 0, .bool true, .string ⟨⟨[97]⟩⟩, .int .i64 0, .bool true, .string ⟨⟨[112]⟩⟩, .int .i64 (-1), .bool false, .string ⟨⟨[101]⟩⟩, .int .i64 2, .bool false, .string ⟨⟨[109]⟩⟩, .int .i64 2, .bool false, .string ⟨⟨[104]⟩⟩, .int .i64 1, .bool false, .string ⟨⟨[107]⟩⟩, .int .i64 1, .bool true, .string ⟨⟨[117]⟩⟩, .int .i64 1, .bool false, .string ⟨⟨[115]⟩⟩, .int .i64 2, .bool false, .string ⟨⟨[120]⟩⟩, .int .i64 2, .bool false]
def powC : List Value := [.int .u64 1, .int .u64 10, .int .u64 100, .int .u64 1000, .int .u64 10000, .int .u64 100000, .int .u64 1000000, .int .u64 10000000, .int .u64 100000000, .int .u64 1000000000, .int .u64 10000000000, .int .u64 100000000000, .int .u64 1000000000000, .int .u64 10000000000000, .int .u64 100000000000000, .int .u64 1000000000000000, .int .u64 10000000000000000, .int .u64 100000000000000000, .int .u64 1000000000000000000, .int .u64 10000000000000000000]
noncomputable def glob : List (Nat × MO) := [(0, mkRow kindsC none), (1, mkRow powC none)]
noncomputable def s0 : S := ⟨insAll glob .nil, 7⟩
noncomputable def GO : GG := memoG G0 [entO]
noncomputable def GW : GG := memoG GO [step1, step2, step3, step4, step5, step6, step7]
noncomputable def entW : Entry := ⟨4, [], 7, glob, .bool true, 4058, [(0, some (mkRow kindsC none)), (1, some (mkRow powC none))]⟩
noncomputable def G2 : GG := memoG G0 [entW]
noncomputable def topAt (x : Nat) : Bool := match evFF E0 G2 40 3 [.int .u8 x] s0 with
  | some (.bool b, _) => b
  | _ => false
noncomputable def topAll : Nat → Bool
  | 0 => true
  | n + 1 => topAt n && topAll n
end Go.Proofs.YtpmehdggikjkfaaGreatDoor.Rf
