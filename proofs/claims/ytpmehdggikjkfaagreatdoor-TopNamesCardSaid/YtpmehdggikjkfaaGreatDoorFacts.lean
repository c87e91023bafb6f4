/- Closed facts on the program that the row and its card ask for, each by itself, by the kernel. -/
import Derived.Test.YtpmehdggikjkfaaGreatDoorRows
import Derived.WalkKit
import Derived.ProofKit
import Derived.SevenTiedAt
namespace Go.Proofs.YtpmehdggikjkfaaGreatDoor
namespace TopRow
theorem j_inplace : (Rows.topNamesRow.inPlace == Tryz.prog.inPlace 3) = true := by kernel_rfl
theorem j_unf : (Rows.topNamesRow.unfollowed == Tryz.prog.unfollowed 3) = true := by kernel_rfl
theorem j_rec : (Rows.topNamesRow.recurses == Tryz.prog.recurses 3) = true := by kernel_rfl
theorem j_named : (Rows.topNamesRow.named == Tryz.prog.varsNamed 3) = true := by kernel_rfl
theorem j_laid : laidOutB Tryz.prog = true := by kernel_rfl
theorem j_maps : mapsRowed Tryz.prog = true := by kernel_rfl
theorem j_goes : false = Rows.topNamesRow.goesBy Tryz.prog := by kernel_rfl
theorem j_looks : true = Tryz.prog.looks [] := by kernel_rfl
theorem j_fn : Tryz.prog.funcNamed Rows.topNamesRow.func = some 3 := by kernel_rfl
theorem closed : joinedFacts Tryz.prog 3 Tryz.f3 Rows.topNamesSpec Rows.topNamesRow = true := by
  unfold joinedFacts
  rw [j_inplace, j_unf, j_rec, j_named, j_laid, j_maps]
  kernel_rfl
end TopRow
end Go.Proofs.YtpmehdggikjkfaaGreatDoor
