/- 'works', by the kernel: true. -/
import Derived.Test.YtpmehdggikjkfaaGreatDoorS0
namespace Go.Proofs.YtpmehdggikjkfaaGreatDoor.Rf
open Go
theorem entW_ok : entryOk (evFF E0 GW 200) entW = true := by kernel_rfl
end Go.Proofs.YtpmehdggikjkfaaGreatDoor.Rf
