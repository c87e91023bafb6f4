/- The four blocks of sha: what the evaluator makes of each, by the kernel. -/
import Derived.Test.YtpmehdggikjkfaaGreatDoorEnts
namespace Go.Proofs.YtpmehdggikjkfaaGreatDoor.Rf
open Go
theorem ent1_ok : entryOk (evFF E0 G0 20) ent1 = true := by kernel_rfl
theorem ent2_ok : entryOk (evFF E0 G0 20) ent2 = true := by kernel_rfl
theorem ent3_ok : entryOk (evFF E0 G0 20) ent3 = true := by kernel_rfl
theorem ent4_ok : entryOk (evFF E0 G0 20) ent4 = true := by kernel_rfl
end Go.Proofs.YtpmehdggikjkfaaGreatDoor.Rf
