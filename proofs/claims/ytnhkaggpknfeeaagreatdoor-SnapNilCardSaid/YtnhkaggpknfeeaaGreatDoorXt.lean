/-
  Calls that are told of by the shelf's contracts.
-/
import Derived.Test.YtnhkaggpknfeeaaGreatDoorTab
import Derived.Test.YtnhkaggpknfeeaaGreatDoorEngJ
import Derived.Test.YtnhkaggpknfeeaaGreatDoorJoin
namespace Go.Proofs.YtnhkaggpknfeeaaGreatDoor
open Go Go.E
set_option maxRecDepth 1000000
noncomputable def xt : Ext := joinX 208
theorem fok208 : FOk env.P 208 := ⟨Tryz.f208, Tryz.func208, by kernel_rfl, by kernel_rfl⟩
theorem xt_ok : ExtOk env xt := joinX.ok fok208 fun bk o c xs sep w h1 h2 h3 h4 h5 => Tryz.strings_Join bk o c xs sep w h1 h2 h3 h4 h5
end Go.Proofs.YtnhkaggpknfeeaaGreatDoor
