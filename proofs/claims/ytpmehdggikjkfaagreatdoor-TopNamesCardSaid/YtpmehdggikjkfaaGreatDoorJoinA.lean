/- strings.Join answers as the evaluator takes it to. -/
import Derived.Test.YtpmehdggikjkfaaGreatDoorGiv
import Derived.Test.YtpmehdggikjkfaaGreatDoorShelf
import Derived.KernelRfl
namespace Go.Proofs.YtpmehdggikjkfaaGreatDoor.Rf
open Go
theorem joinOk : JoinOk Tryz.prog 154 :=
  ⟨⟨_, Tryz.func154, by kernel_rfl, by kernel_rfl⟩, fun bk o c xs sep w h1 h2 h3 h4 h5 => Tryz.strings_Join bk o c xs sep w h1 h2 h3 h4 h5⟩
end Go.Proofs.YtpmehdggikjkfaaGreatDoor.Rf
