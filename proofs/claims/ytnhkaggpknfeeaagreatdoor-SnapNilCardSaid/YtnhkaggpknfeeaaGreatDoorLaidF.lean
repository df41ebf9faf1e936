/-
  CLOSED FACTS of the whole translation, a theorem each.
-/
import Derived.Test.YtnhkaggpknfeeaaGreatDoorRows
import Derived.WalkKit
import Derived.ProofKit
import Derived.JoinedOf
import Derived.SevenTiedAt
namespace Go.Proofs.YtnhkaggpknfeeaaGreatDoor
open Go.ChangeShapes Go.WideShapes Go.ChangeAt Go.RowKit
set_option maxRecDepth 100000
theorem mapsRow : mapsRowed Tryz.prog = true := by kernel_rfl
theorem heard : Tryz.prog.stopsHeard = true := by kernel_rfl
theorem enters : Tryz.prog.mayEnter = true := by kernel_rfl
theorem keysPlain : ((true : Bool) == Tryz.prog.plainKeys) = true := by kernel_rfl
theorem mains : Tryz.pinned.checked.prog.mainIs = some (true, "749aa3d1a5a9552d828ae2035a22a67d57db4e4167211d11e27e7e5deabb5073".toList) := by kernel_rfl
theorem looksNot : false = Tryz.pinned.checked.prog.looks [] := by kernel_rfl
theorem lifts : (Rows.execNilRow.lifted == Tryz.prog.liftsFinal) = true := by kernel_rfl
end Go.Proofs.YtnhkaggpknfeeaaGreatDoor
