/-
  SnapNil: the kernel's walk, whatever the bytes are.
-/
import Derived.Test.YtnhkaggpknfeeaaGreatDoorAs5
import Derived.Test.YtnhkaggpknfeeaaGreatDoorLaid
namespace Go.Proofs.YtnhkaggpknfeeaaGreatDoor.snapNil
open Go.ChangeShapes Go.WideShapes Go.ChangeAt Go.RowKit Go.E
set_option maxRecDepth 1000000

noncomputable def calls : CallF := withP [(53, [], V.bool true)] (cfE env fns 100)
theorem calls_ok : CallOk env calls := withP.ok (fun p hp => by
  have : p = (53, [], V.bool true) := by simpa using hp
  subst this; exact as_c) (fnE.out env_ok fns_ok as_mixed 100)
theorem fn11 : fns 11 = some (Tryz.f11, pre11) := by kernel_rfl

theorem walked (x : Value) : isTrueL (wholeE env calls 11 100 pre11 Tryz.f11 [.d (.v x)] ⟨.e, 0⟩) = true := by kernel_rfl

theorem walk {W : World} {x : Value} (hx : Value.oneCell' x = true) (hL : laidMetH Tryz.prog kindsLaid W) :
    Calls Tryz.prog 11 #[x] W fun e W' => e = .returned (.bool true) ∧ Below W.heap.size W W' := by
  obtain ⟨h', e⟩ := isTrueL.out (walked x)
  have h := CallsTo.whole env_ok calls_ok as_mixed fns_ok fn11 e
  have ρ : Nat → Bk := fun _ => ⟨0, 0⟩
  exact h.law (ρ := ρ) (S := fun b => b < W.heap.size) (xs := [x]) (.cons (.d (.v hx)) .nil) (fun _ h => h) (glob_of_laid hL)
end Go.Proofs.YtnhkaggpknfeeaaGreatDoor.snapNil
