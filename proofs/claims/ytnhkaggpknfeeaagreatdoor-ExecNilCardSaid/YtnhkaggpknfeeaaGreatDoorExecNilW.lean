/-
  ExecNil: of no session nothing comes, whatever the number and the state are: the call returns true, and turns nothing of what was there. The one package-level variable that its road reads (kind.kinds) holds what its text lays; a bound on sizes is not asked.
-/
import Derived.Test.YtnhkaggpknfeeaaGreatDoorAw3
import Derived.Test.YtnhkaggpknfeeaaGreatDoorLaid
namespace Go.Proofs.YtnhkaggpknfeeaaGreatDoor.execNil
open Go.ChangeShapes Go.WideShapes Go.ChangeAt Go.RowKit Go.E
set_option maxRecDepth 1000000

noncomputable def calls : CallF := withP [(17, [], V.bool true)] (cfE env fns 100)
theorem calls_ok : CallOk env calls := withP.ok (fun p hp => by
  have : p = (17, [], V.bool true) := by simpa using hp
  subst this; exact aw_c) (fnE.out env_ok fns_ok aw_mixed 100)
theorem fn8 : fns 8 = some (Tryz.f8, pre8) := by kernel_rfl

/-- The kernel's walk, whatever the arguments hold. -/
theorem walked (x a b c d : Value) : isTrueL (wholeE env calls 8 100 pre8 Tryz.f8 [.d (.v x), .agg [.d (.v a), .d (.v b), .d (.v c), .d (.v d)]] ⟨.e, 0⟩) = true := by kernel_rfl

theorem walk {W : World} {x a b c d : Value} (hx : Value.oneCell' x = true) (ha : Value.oneCell' a = true) (hb : Value.oneCell' b = true) (hc : Value.oneCell' c = true) (hd : Value.oneCell' d = true) (hL : laidMetH Tryz.prog kindsLaid W) :
    Calls Tryz.prog 8 #[x, .agg #[a, b, c, d]] W fun e W' => e = .returned (.bool true) ∧ Below W.heap.size W W' := by
  obtain ⟨h', e⟩ := isTrueL.out (walked x a b c d)
  have h := CallsTo.whole env_ok calls_ok aw_mixed fns_ok fn8 e
  have ρ : Nat → Bk := fun _ => ⟨0, 0⟩
  refine h.law (ρ := ρ) (S := fun b => b < W.heap.size) (xs := [x, .agg #[a, b, c, d]]) ?_ (fun _ h => h) (glob_of_laid hL)
  have q : RVs ρ 0 (fun b => b < W.heap.size) W [.d (.v a), .d (.v b), .d (.v c), .d (.v d)] [a, b, c, d] := .cons (.d (.v ha)) (.cons (.d (.v hb)) (.cons (.d (.v hc)) (.cons (.d (.v hd)) .nil)))
  exact .cons (.d (.v hx)) (.cons (.agg q.1 q.2) .nil)

end Go.Proofs.YtnhkaggpknfeeaaGreatDoor.execNil
