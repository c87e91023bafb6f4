/- The law, 'works' being answered, at each of its 256 inputs, by the kernel: true. -/
import Derived.Test.YtpmehdggikjkfaaGreatDoorS0
namespace Go.Proofs.YtpmehdggikjkfaaGreatDoor.Rf
open Go
theorem top_ok : topAll 256 = true := by kernel_rfl
end Go.Proofs.YtpmehdggikjkfaaGreatDoor.Rf
