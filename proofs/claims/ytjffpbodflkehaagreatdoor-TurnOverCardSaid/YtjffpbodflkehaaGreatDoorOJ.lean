/- Closed facts of the row, each by the kernel. -/
import Derived.Test.YtjffpbodflkehaaGreatDoorRows
import Derived.ProofKit
set_option maxRecDepth 100000
namespace Go.Proofs.YtjffpbodflkehaaGreatDoor
open Go
theorem j1 : Tryz.prog.inPlace 8 = Rows.turnOverRow.inPlace := by kernel_rfl
theorem j2 : Tryz.prog.unfollowed 8 = Rows.turnOverRow.unfollowed := by kernel_rfl
theorem j3 : Tryz.prog.recurses 8 = Rows.turnOverRow.recurses := by kernel_rfl
theorem j4 : Tryz.prog.varsNamed 8 = Rows.turnOverRow.named := by kernel_rfl
theorem closed : joinedFacts Tryz.prog 8 Tryz.f8 (OpenSpec.ofChange Rows.turnOverSpec).bare Rows.turnOverRow = true := by
  unfold joinedFacts
  rw [j1, j2, j3, j4]
  kernel_rfl
end Go.Proofs.YtjffpbodflkehaaGreatDoor
