/- A world in which the six listed variables hold what they are laid with: closed facts on it, by the kernel. -/
import Derived.Test.YtpmehdggikjkfaaGreatDoorRows
import Derived.WalkKit
import Derived.ProofKit
import Derived.Lay
import Derived.OpenShut
namespace Go.Proofs.YtpmehdggikjkfaaGreatDoor
namespace TopRow
noncomputable def witW (os : Os) : World := (World.laidAll Tryz.prog os Rows.topNamesRow.laid).forCall (fun _ _ => 0) ⟨#[], #[.int .u8 0], []⟩
theorem wit_inits : Tryz.checked.prog.inits.idxOf? 3 = none := by kernel_rfl
theorem wit_zip (os : Os) : World.variablesZipB Tryz.checked.prog (witW os) = true := by kernel_rfl
theorem wit_rest (os : Os) : ((witW os).heap.toList.drop Tryz.checked.prog.globals.size).take ((begin Tryz.checked.prog (fun _ _ => 0) default).world.heap.size - Tryz.checked.prog.globals.size) = (begin Tryz.checked.prog (fun _ _ => 0) default).world.heap.toList.drop Tryz.checked.prog.globals.size := by kernel_rfl
theorem wit_ok (os : Os) : Input.okWideB Tryz.checked.prog (witW os) 3 ⟨#[], #[.int .u8 0], []⟩ = true := by kernel_rfl
theorem wit_pre (os : Os) (H : Type) (enc : TypeId × Value → H) : ChangeSpec.preB enc Tryz.checked.prog Tryz.f3 Rows.topNamesSpec [] false (witW os).memory #[.int .u8 0] 8 = true := by kernel_rfl
theorem wit_sized (os : Os) (H : Type) (enc : TypeId × Value → H) : ChangeSpec.sizedB enc Tryz.checked.prog Tryz.f3 Rows.topNamesSpec false (witW os).memory #[.int .u8 0] 8 = true := by kernel_rfl
theorem wit_plain : (Rows.topNamesRow.laid.all fun x => x.snd.handleName?.isNone) = true := by kernel_rfl
theorem wit_fits (os : Os) : World.layFits Tryz.prog (World.holding Tryz.prog os ⟨#[], #[], []⟩) Rows.topNamesRow.laid [] = true := by kernel_rfl
theorem wit_ifaces (os : Os) : World.layIfaces Tryz.prog (World.holding Tryz.prog os ⟨#[], #[], []⟩) Rows.topNamesRow.laid (World.laidAll Tryz.prog os Rows.topNamesRow.laid) = true := by kernel_rfl
end TopRow
end Go.Proofs.YtpmehdggikjkfaaGreatDoor
