/-
  THE ONE LISTED VARIABLE: what the condition on it gives the engine; the witness's heap.
-/
import Derived.Test.YtnhkaggpknfeeaaGreatDoorTab
import Derived.Test.YtnhkaggpknfeeaaGreatDoorEngP
import Derived.Test.YtnhkaggpknfeeaaGreatDoorRows
import Derived.WalkKit
import Derived.ProofKit
import Derived.LaidMore
import Derived.OpenShut
import Derived.Stop.Joined
import Derived.Carry
namespace Go.Proofs.YtnhkaggpknfeeaaGreatDoor
open Go.ChangeShapes Go.WideShapes Go.ChangeAt Go.RowKit
set_option maxRecDepth 100000

theorem own : ownKnob Tryz.prog.godebug = none := by kernel_rfl
theorem mixed : Tryz.prog.follows .mixedOrders = true := by kernel_rfl
theorem laidOut : laidOutB Tryz.prog = true := by kernel_rfl
theorem gKinds : Tryz.prog.globalNamed "earshot/kind.kinds" = some 0 := by kernel_rfl
theorem tKinds : (Tryz.prog.globals[0]?).map (·.type) = some 325 := by kernel_rfl
theorem cKinds : Tryz.prog.cellsOf 3 = 1 := by kernel_rfl

/-- The list of the rows. -/
abbrev kindsLaid : List (String × DataW Unit) := [("earshot/kind.kinds", Rows.laid_earshot_kind_kinds)]

/-- The door's own heap meets the condition. -/
theorem door_met (os : Os) (args : Array Value) : laidMetH Tryz.prog kindsLaid ((World.doorLaid Tryz.prog 400 os).forCall (fun _ _ => 0) ⟨#[], args, []⟩).memory :=
  laidMetH_of_parts3 (fuel := 8) (laidMet_of_run' 8 (by kernel_rfl) (by kernel_rfl)) (by kernel_rfl) (by kernel_rfl)

theorem glob_of_laid {ρ : Nat → Go.E.Bk} {W : World} (h : laidMetH Tryz.prog kindsLaid W) : ∀ g ds, Go.E.look g env.G = some ds → Go.E.RV ρ 0 (fun b => b < W.heap.size) W ds (.pointer (some ⟨g, 0, none⟩)) := by
  rw [MakeChecks.laidMetH_plain _ _ _ (by kernel_rfl)] at h
  obtain ⟨ps, ⟨g0, t0, cs0, f0, p0, q0, hg0, ht0, hv0, hd0, _, _⟩, _, _⟩ := h
  obtain rfl := Option.some.inj (gKinds.symm.trans hg0)
  obtain rfl := Option.some.inj (tKinds.symm.trans ht0)
  obtain ⟨xs, m1, _, hx1, hlen, hn, hel⟩ := DataW.trod_array Tryz.underlying325 hd0
  have hL : xs.map (·.1) = kindsL.map fun k => (DataW.lit (.int .i64 k) : DataW Unit) := by
    have := (Prod.mk.inj hx1).1
    injection this with this
    exact this.symm
  have hcell : ∀ i, i < 13 → W.cell? ⟨0, i, none⟩ = some (.int .i64 (kindsL.getD i 0)) := by
    intro i hi
    have h0 := hel i hi
    have hxi : xs[i]? = some xs[i] := List.getElem?_eq_getElem (by omega)
    rw [hxi, cKinds] at h0
    obtain ⟨k, e1, e2, _⟩ := DataW.trod_int Tryz.underlying3 h0
    have hk : (xs.map (·.1))[i]? = some (.lit (.int .i64 k)) := by rw [List.getElem?_map, hxi, e2]; rfl
    rw [hL, List.getElem?_map] at hk
    have hkl : i < kindsL.length := by show i < 13; exact hi
    rw [List.getElem?_eq_getElem hkl] at hk
    simp only [Option.map_some, Option.some.injEq, DataW.lit.injEq, Lit.int.injEq, true_and] at hk
    have hc := World.var?_cell hg0 hv0 i
    rw [hc, ← Array.getElem?_toList]
    have : cs0.toList[i]? = some (.int .i64 k) := by
      have e3 := congrArg (·[0]?) e1
      simpa [List.getElem?_take, List.getElem?_drop] using e3
    rw [this, ← hk]
    rw [List.getD_eq_getElem?_getD, List.getElem?_eq_getElem hkl]
    rfl
  intro g ds hg
  have hg' : Go.E.look g globL = some ds := hg
  simp only [globL, Go.E.look] at hg'
  cases hb : Nat.beq g 0 with
  | false => rw [hb] at hg'; cases hg'
  | true =>
    rw [hb] at hg'
    simp only [cond_true, Option.some.injEq] at hg'
    subst hg'
    have := Nat.eq_of_beq_eq_true hb
    subst this
    have hsz : 0 < W.heap.size := by
      have := hcell 0 (by omega)
      rcases Nat.lt_or_ge 0 W.heap.size with h | h
      · exact h
      · have e : W.heap[0]? = none := Array.getElem?_eq_none h
        simp [World.cell?, e] at this
    refine .pr (fun i k => .int .i64 (kindsL.getD i 0)) hsz (fun i _ => rfl) (fun i k hi hk => ?_) (fun i k d hi hd => ?_)
    · have : k = 0 := by omega
      subst this
      simpa using hcell i hi
    · cases k with
      | zero => simp at hd; subst hd; exact .v rfl
      | succ k => simp at hd
/-- The closed facts of a row, one by one: what asks the whole program is proved ahead, a theorem each. -/
theorem joined_mk {P : Program} {f : FuncId} {fn : Func} {s : ChangeSpec} {c : OpenClaim} (h1 : c.wf (OpenSpec.ofChange s) = true) (h2 : laidOutB P = true) (h3 : mapsRowed P = true) (h4 : fn.params.all (P.readableRec ·) = true) (h5 : namedTie P c.named s.vars = true)
    (h6 : (c.stops == []) = true) (h7 : (P.stops == []) = true) (h8 : (c.knobs == []) = true) (h9 : (P.stopKnobs == []) = true) (h10 : (c.inPlace == P.inPlace f) = true) (h11 : (c.unfollowed == P.unfollowed f) = true) (h12 : (c.recurses == P.recurses f) = true) (h13 : (c.named == P.varsNamed f) = true)
    (h14 : (c.maps == (fn.params.toList ++ s.plain.varTypes P).any (P.mapsRec ·)) = true) (h15 : (c.ifaces == (fn.params.toList ++ s.plain.varTypes P).any (P.ifacesRec ·)) = true) (h16 : (c.mapsOut == P.mapsAmong fn.resultTypes.toList) = true) (h17 : (c.loops == (fn.params.toList ++ s.plain.varTypes P).any (P.loopsFrom ·)) = true)
    (h18 : (c.wideKeys == (fn.params.toList ++ s.plain.varTypes P ++ fn.resultTypes.toList).any (P.wideKeysFrom ·)) = true) (h19 : s.vars.all (P.varReadable ·) = true) (h20 : fn.resultTypes.all (fun t => P.readableRec t && decide (t < P.types.size)) = true) (h21 : (c.ifacesOut == fn.resultTypes.toList.any (P.ifacesRec ·)) = true)
    (h22 : (c.loopsOut == fn.resultTypes.toList.any (P.loopsFrom ·)) = true) (h23 : (c.plainKeys == P.plainKeys) = true) (h24 : c.shortTexts.isNone = true) (h25 : P.stopsHeard = true) (h26 : P.mayEnter = true) (h27 : (c.lifted == P.liftsFinal) = true) (h28 : (P.make == some c.make) = true) (hd : c.domain.isEmpty = true) (h29 : (c.kinds == []) = true)
    (h30 : (c.pinned == c.pinnedBy) = true) (h31 : (c.veiled == (fn.params.toList ++ s.plain.varTypes P ++ fn.resultTypes.toList).any (P.veiledRec ·)) = true) (h32 : c.veiledFits P fn.params.toList (fn.params.toList ++ s.plain.varTypes P ++ fn.resultTypes.toList) = true) : joinedFacts P f fn s c = true := by
  simp only [joinedFacts, h1, h2, h3, h4, h5, h6, h7, h8, h9, h10, h11, h12, h13, h14, h15, h16, h17, h18, h19, h20, h21, h22, h23, h24, h25, h26, h27, h28, hd, if_true, h29, h30, h31, h32, Bool.and_self]
end Go.Proofs.YtnhkaggpknfeeaaGreatDoor
