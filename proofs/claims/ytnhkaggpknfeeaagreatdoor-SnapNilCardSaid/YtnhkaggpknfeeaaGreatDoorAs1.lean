/-
  FUNCTION 53, PIECE 1 OF 5: THE KERNEL WALKS THE CODES 0 TO 2. Printed by wip/tools/lit2lean.py.
-/
import Derived.Test.YtnhkaggpknfeeaaGreatDoorTab
import Derived.Test.YtnhkaggpknfeeaaGreatDoorEngP
import Derived.Test.YtnhkaggpknfeeaaGreatDoorXt
namespace Go.Proofs.YtnhkaggpknfeeaaGreatDoor
open Go Go.E
set_option maxRecDepth 1000000
noncomputable def asB : Code := match Tryz.f53.body with
  | some c => c
  | none => .skip
noncomputable def asC : List Code := seqsE asB
noncomputable def as0 : ES := ⟨Tr.mk none 64 47, ⟨.e, 0⟩, []⟩
noncomputable def as1 : ES := ⟨(.n (some (V.d (D.v (Go.Value.bool Bool.false)))) (.n none (.n (some (V.loc 0 0)) (.n none (.n none (.n none .e .e) .e) (.n none (.n none .e .e) .e)) (.n none (.n none (.n none .e .e) .e) (.n none (.n none .e .e) .e))) (.n none (.n none (.n none (.n none .e .e) .e) (.n none (.n none .e .e) .e)) (.n none (.n none (.n none .e .e) .e) (.n none (.n none .e .e) .e)))) (.n none (.n none (.n none (.n none (.n none .e .e) .e) (.n none (.n none .e .e) .e)) (.n none (.n none (.n none .e .e) .e) (.n none (.n none .e .e) .e))) (.n none (.n none (.n none (.n none .e .e) .e) (.n none (.n none .e .e) .e)) (.n none (.n none (.n none .e .e) .e) (.n none (.n none .e .e) .e))))), ⟨(.n (some (Ch.cells 34 [(V.d (D.v (Go.Value.int Go.IntKind.i64 1))), (V.d (D.v (Go.Value.int Go.IntKind.i64 0))), (V.d (D.v (Go.Value.int Go.IntKind.i64 9))), (V.ms 1 0 1 none 15), (V.d (D.v (Go.Value.int Go.IntKind.i64 1))), (V.ms 2 1 1 none 1), (V.ms 3 0 2 none 3), (V.d (D.v (Go.Value.int Go.IntKind.i64 8))), (V.d (D.v (Go.Value.int Go.IntKind.i64 0))), (V.d (D.v (Go.Value.int Go.IntKind.u32 2371335378)))])) (.n (some (Ch.rows 112 1 none 15 (fun i => nthD [] [[(V.d (D.v (Go.Value.int Go.IntKind.i64 12))), (V.ms 4 0 1 none 1), (V.d (D.v (Go.Value.int Go.IntKind.i64 0))), (V.d (D.v (Go.Value.int Go.IntKind.i64 3))), (V.d (D.v (Go.Value.int Go.IntKind.i64 0))), (V.d (D.v (Go.Value.int Go.IntKind.i64 0))), (V.d (D.v (Go.Value.int Go.IntKind.i64 0))), (V.d (D.v (Go.Value.int Go.IntKind.i64 0))), (V.d (D.sl (some Bool.true) 0 1 (fun i => nthD [] [] i))), (V.d (D.sl (some Bool.true) 0 1 (fun i => nthD [] [] i))), (V.d (D.v (Go.Value.int Go.IntKind.i64 0))), (V.d (D.v (Go.Value.int Go.IntKind.i64 0))), (V.d (D.v (Go.Value.int Go.IntKind.i64 0))), (V.d (D.v (Go.Value.int Go.IntKind.i64 0))), (V.d (D.v (Go.Value.int Go.IntKind.i64 0)))]] i))) (.n (some (Ch.rows 57 2 none 3 (fun i => nthD [] [[(V.d (D.v (Go.Value.int Go.IntKind.i64 0))), (V.d (D.v (Go.Value.int Go.IntKind.i64 1))), (V.d (D.v (Go.Value.int Go.IntKind.i64 3)))], [(V.d (D.v (Go.Value.int Go.IntKind.i64 4))), (V.d (D.v (Go.Value.int Go.IntKind.i64 1))), (V.d (D.v (Go.Value.int Go.IntKind.i64 1)))]] i))) .e .e) .e) (.n (some (Ch.rows 3 2 none 1 (fun i => nthD [] [[(V.d (D.v (Go.Value.int Go.IntKind.i64 0)))], [(V.d (D.v (Go.Value.int Go.IntKind.i64 1)))]] i))) (.n (some (Ch.rows 3 1 none 1 (fun i => nthD [] [[(V.d (D.v (Go.Value.int Go.IntKind.i64 0)))]] i))) .e .e) .e)), 5⟩, []⟩
theorem as1_ok : pieceE env 47 0 (cfX env fns xt 2000) 53 2000 pre53 ((asC.drop 0).take 3) as0 as1 [270, 142, 151, 229, 140] = true := by kernel_rfl
end Go.Proofs.YtnhkaggpknfeeaaGreatDoor
