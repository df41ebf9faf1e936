/-
  ExecNil: closed facts of its row, a theorem each.
-/
import Derived.Test.YtnhkaggpknfeeaaGreatDoorRows
import Derived.WalkKit
import Derived.ProofKit
import Derived.JoinedOf
import Derived.SevenTiedAt
namespace Go.Proofs.YtnhkaggpknfeeaaGreatDoor.execNil
open Go.ChangeShapes Go.WideShapes Go.ChangeAt Go.RowKit
set_option maxRecDepth 100000
theorem r10 : (Rows.execNilRow.inPlace == Tryz.prog.inPlace 8) = true := by kernel_rfl
theorem r11 : (Rows.execNilRow.unfollowed == Tryz.prog.unfollowed 8) = true := by kernel_rfl
theorem r12 : (Rows.execNilRow.recurses == Tryz.prog.recurses 8) = true := by kernel_rfl
theorem r13 : (Rows.execNilRow.named == Tryz.prog.varsNamed 8) = true := by kernel_rfl
theorem wfText : Rows.execNilRow.wfByText (OpenSpec.ofChange Rows.execNilSpec) = true := by kernel_rfl
theorem goes : false = Rows.execNilRow.goesBy Tryz.pinned.checked.prog := by kernel_rfl
end Go.Proofs.YtnhkaggpknfeeaaGreatDoor.execNil
