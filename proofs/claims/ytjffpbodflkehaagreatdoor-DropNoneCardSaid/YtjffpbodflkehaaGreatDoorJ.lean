/- Closed facts of the row, each by the kernel. -/
import Derived.Test.YtjffpbodflkehaaGreatDoorRows
import Derived.ProofKit
set_option maxRecDepth 100000
namespace Go.Proofs.YtjffpbodflkehaaGreatDoor
open Go
theorem j1 : Tryz.prog.inPlace 4 = Rows.dropNoneRow.inPlace := by kernel_rfl
theorem j2 : Tryz.prog.unfollowed 4 = Rows.dropNoneRow.unfollowed := by kernel_rfl
theorem j3 : Tryz.prog.recurses 4 = Rows.dropNoneRow.recurses := by kernel_rfl
theorem j4 : Tryz.prog.varsNamed 4 = Rows.dropNoneRow.named := by kernel_rfl
theorem closed : joinedFacts Tryz.prog 4 Tryz.f4 (OpenSpec.ofChange Rows.dropNoneSpec).bare Rows.dropNoneRow = true := by
  unfold joinedFacts
  rw [j1, j2, j3, j4]
  kernel_rfl
end Go.Proofs.YtjffpbodflkehaaGreatDoor
