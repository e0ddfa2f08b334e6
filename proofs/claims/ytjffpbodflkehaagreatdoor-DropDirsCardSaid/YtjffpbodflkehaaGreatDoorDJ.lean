/- Closed facts of the row, each by the kernel. -/
import Derived.Test.YtjffpbodflkehaaGreatDoorRows
import Derived.ProofKit
set_option maxRecDepth 100000
namespace Go.Proofs.YtjffpbodflkehaaGreatDoor
open Go
theorem j1 : Tryz.prog.inPlace 5 = Rows.dropDirsRow.inPlace := by kernel_rfl
theorem j2 : Tryz.prog.unfollowed 5 = Rows.dropDirsRow.unfollowed := by kernel_rfl
theorem j3 : Tryz.prog.recurses 5 = Rows.dropDirsRow.recurses := by kernel_rfl
theorem j4 : Tryz.prog.varsNamed 5 = Rows.dropDirsRow.named := by kernel_rfl
theorem closed : joinedFacts Tryz.prog 5 Tryz.f5 (OpenSpec.ofChange Rows.dropDirsSpec).bare Rows.dropDirsRow = true := by
  unfold joinedFacts
  rw [j1, j2, j3, j4]
  kernel_rfl
end Go.Proofs.YtjffpbodflkehaaGreatDoor
