/-
  SnapNil: closed facts of its row, a theorem each.
-/
import Derived.Test.YtnhkaggpknfeeaaGreatDoorRows
import Derived.WalkKit
import Derived.ProofKit
import Derived.JoinedOf
import Derived.SevenTiedAt
namespace Go.Proofs.YtnhkaggpknfeeaaGreatDoor.snapNil
open Go.ChangeShapes Go.WideShapes Go.ChangeAt Go.RowKit
set_option maxRecDepth 100000
theorem r10 : (Rows.snapNilRow.inPlace == Tryz.prog.inPlace 11) = true := by kernel_rfl
theorem r11 : (Rows.snapNilRow.unfollowed == Tryz.prog.unfollowed 11) = true := by kernel_rfl
theorem r12 : (Rows.snapNilRow.recurses == Tryz.prog.recurses 11) = true := by kernel_rfl
theorem r13 : (Rows.snapNilRow.named == Tryz.prog.varsNamed 11) = true := by kernel_rfl
theorem wfText : Rows.snapNilRow.wfByText (OpenSpec.ofChange Rows.snapNilSpec) = true := by kernel_rfl
theorem goes : false = Rows.snapNilRow.goesBy Tryz.pinned.checked.prog := by kernel_rfl
end Go.Proofs.YtnhkaggpknfeeaaGreatDoor.snapNil
