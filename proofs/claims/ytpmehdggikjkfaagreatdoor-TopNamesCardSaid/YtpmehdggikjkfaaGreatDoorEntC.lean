/- The fourth step of the world, by the kernel. -/
import Derived.Test.YtpmehdggikjkfaaGreatDoorEntsB
namespace Go.Proofs.YtpmehdggikjkfaaGreatDoor.Rf
open Go
theorem step4_ok : entryOk (evFF E0 G0 200) step4 = true := by kernel_rfl
end Go.Proofs.YtpmehdggikjkfaaGreatDoor.Rf
