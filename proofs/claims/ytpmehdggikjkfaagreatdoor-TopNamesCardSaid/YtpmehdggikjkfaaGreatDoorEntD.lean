/- The last three steps of the world, by the kernel. -/
import Derived.Test.YtpmehdggikjkfaaGreatDoorEntsB
namespace Go.Proofs.YtpmehdggikjkfaaGreatDoor.Rf
open Go
theorem step5_ok : entryOk (evFF E0 G0 200) step5 = true := by kernel_rfl
theorem step6_ok : entryOk (evFF E0 G0 200) step6 = true := by kernel_rfl
theorem step7_ok : entryOk (evFF E0 G0 200) step7 = true := by kernel_rfl
end Go.Proofs.YtpmehdggikjkfaaGreatDoor.Rf
