/-
  FUNCTION 17, PIECE 3 OF 3: THE KERNEL WALKS THE CODES 4 TO 12. Printed by wip/tools/lit2lean.py.
-/
import Derived.Test.YtnhkaggpknfeeaaGreatDoorAw2
namespace Go.Proofs.YtnhkaggpknfeeaaGreatDoor
open Go Go.E
set_option maxRecDepth 1000000
theorem aw3_ok : isTrueL (lastE env 79 (cfE env fns 2000) 17 2000 pre17 (awC.drop 4) Tryz.f17.results.toList aw2) = true := by kernel_rfl
theorem aw_body : Tryz.f17.body = some awB := by kernel_rfl
theorem aw_fn : fns 17 = some (Tryz.f17, pre17) := by kernel_rfl
theorem aw_mixed : env.P.follows .mixedOrders = true := by kernel_rfl
theorem aw_calls : CallOk env (cfE env fns 2000) := fnE.out env_ok fns_ok aw_mixed 2000
theorem aw_draws {a k : Nat} : ∀ c ∈ ((awC.drop a).take k), drawsOk pre17 c = true := fun d hd => draws_seqs ((fns_ok 17 _ _ aw_fn).2.2 _ aw_body) d (List.mem_of_mem_drop (List.mem_of_mem_take hd))
theorem aw_run1 : Runs env 79 0 ((awC.drop 0).take 3) aw0 .normal aw1 := pieceE.out env_ok aw_calls aw_mixed aw_draws (Nat.le_refl _) aw1_ok
theorem aw_run2 : Runs env 79 0 ((awC.drop 3).take 1) aw1 .normal aw2 := pieceE.out env_ok aw_calls aw_mixed aw_draws (Nat.le_refl _) aw2_ok
theorem aw_cut : seqsE awB = (((awC.drop 0).take 3) ++ ((awC.drop 3).take 1)) ++ awC.drop 4 := by
  have r1 : seqsE awB = ((awC.drop 0).take 3) ++ awC.drop 3 := cutL awC 0 3
  have r2 : seqsE awB = (((awC.drop 0).take 3) ++ ((awC.drop 3).take 1)) ++ awC.drop 4 := r1.trans ((congrArg (((awC.drop 0).take 3) ++ ·) (cutL awC 3 1)).trans (List.append_assoc _ _ _).symm)
  exact r2
/-- THE CONTRACT: it returns true, whatever lies in memory. -/
theorem aw_c : PureC env 17 [] (V.bool true) := by
  obtain ⟨h', e⟩ := isTrueL.out aw3_ok
  exact PureC.of (CallsTo.last env_ok aw_calls aw_mixed fns_ok aw_fn aw_body (es0 := aw0) rfl aw_cut ((aw_run1).app aw_run2) e) rfl
end Go.Proofs.YtnhkaggpknfeeaaGreatDoor
