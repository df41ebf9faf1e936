/-
  FUNCTION 53, PIECE 5 OF 5: THE KERNEL WALKS THE CODES 6 TO 7. Printed by wip/tools/lit2lean.py.
-/
import Derived.Test.YtnhkaggpknfeeaaGreatDoorAs4
namespace Go.Proofs.YtnhkaggpknfeeaaGreatDoor
open Go Go.E
set_option maxRecDepth 1000000
theorem as5_ok : isTrueL (lastE env 47 (cfX env fns xt 2000) 53 2000 pre53 (asC.drop 6) Tryz.f53.results.toList as4) = true := by kernel_rfl
theorem as_body : Tryz.f53.body = some asB := by kernel_rfl
theorem as_fn : fns 53 = some (Tryz.f53, pre53) := by kernel_rfl
theorem as_mixed : env.P.follows .mixedOrders = true := by kernel_rfl
theorem as_calls : CallOk env (cfX env fns xt 2000) := cfX.out env_ok fns_ok xt_ok as_mixed 2000
theorem as_draws {a k : Nat} : ∀ c ∈ ((asC.drop a).take k), drawsOk pre53 c = true := fun d hd => draws_seqs ((fns_ok 53 _ _ as_fn).2.2 _ as_body) d (List.mem_of_mem_drop (List.mem_of_mem_take hd))
theorem as_run1 : Runs env 47 0 ((asC.drop 0).take 3) as0 .normal as1 := pieceE.out env_ok as_calls as_mixed as_draws (Nat.le_refl _) as1_ok
theorem as_run2 : Runs env 47 0 ((asC.drop 3).take 1) as1 .normal as2 := pieceE.out env_ok as_calls as_mixed as_draws (Nat.le_refl _) as2_ok
theorem as_run3 : Runs env 47 0 ((asC.drop 4).take 1) as2 .normal as3 := pieceE.out env_ok as_calls as_mixed as_draws (Nat.le_refl _) as3_ok
theorem as_run4 : Runs env 47 0 ((asC.drop 5).take 1) as3 .normal as4 := pieceE.out env_ok as_calls as_mixed as_draws (Nat.le_refl _) as4_ok
theorem as_cut : seqsE asB = (((((asC.drop 0).take 3) ++ ((asC.drop 3).take 1)) ++ ((asC.drop 4).take 1)) ++ ((asC.drop 5).take 1)) ++ asC.drop 6 := by
  have r1 : seqsE asB = ((asC.drop 0).take 3) ++ asC.drop 3 := cutL asC 0 3
  have r2 : seqsE asB = (((asC.drop 0).take 3) ++ ((asC.drop 3).take 1)) ++ asC.drop 4 := r1.trans ((congrArg (((asC.drop 0).take 3) ++ ·) (cutL asC 3 1)).trans (List.append_assoc _ _ _).symm)
  have r3 : seqsE asB = ((((asC.drop 0).take 3) ++ ((asC.drop 3).take 1)) ++ ((asC.drop 4).take 1)) ++ asC.drop 5 := r2.trans ((congrArg ((((asC.drop 0).take 3) ++ ((asC.drop 3).take 1)) ++ ·) (cutL asC 4 1)).trans (List.append_assoc _ _ _).symm)
  have r4 : seqsE asB = (((((asC.drop 0).take 3) ++ ((asC.drop 3).take 1)) ++ ((asC.drop 4).take 1)) ++ ((asC.drop 5).take 1)) ++ asC.drop 6 := r3.trans ((congrArg (((((asC.drop 0).take 3) ++ ((asC.drop 3).take 1)) ++ ((asC.drop 4).take 1)) ++ ·) (cutL asC 5 1)).trans (List.append_assoc _ _ _).symm)
  exact r4
/-- THE CONTRACT: it returns true, whatever lies in memory. -/
theorem as_c : PureC env 53 [] (V.bool true) := by
  obtain ⟨h', e⟩ := isTrueL.out as5_ok
  exact PureC.of (CallsTo.last env_ok as_calls as_mixed fns_ok as_fn as_body (es0 := as0) rfl as_cut ((((as_run1).app as_run2).app as_run3).app as_run4) e) rfl
end Go.Proofs.YtnhkaggpknfeeaaGreatDoor
