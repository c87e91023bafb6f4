/- The first three steps of the world, and the code, by the kernel. -/
import Derived.Test.YtpmehdggikjkfaaGreatDoorEntsB
namespace Go.Proofs.YtpmehdggikjkfaaGreatDoor.Rf
open Go
theorem step1_ok : entryOk (evFF E0 G0 200) step1 = true := by kernel_rfl
theorem step2_ok : entryOk (evFF E0 G0 200) step2 = true := by kernel_rfl
theorem step3_ok : entryOk (evFF E0 G0 200) step3 = true := by kernel_rfl
noncomputable def G1 : GG := memoG G0 [ent1, ent2, ent3, ent4]
theorem entO_ok : entryOk (evFF E0 G1 200) entO = true := by kernel_rfl
end Go.Proofs.YtpmehdggikjkfaaGreatDoor.Rf
