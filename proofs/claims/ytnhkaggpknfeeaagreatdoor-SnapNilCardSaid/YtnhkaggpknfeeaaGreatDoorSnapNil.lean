/-
  SnapNil: of no session there is nothing to be saved, and none to be loaded, whatever the bytes are: the call returns true, and turns nothing of what was there. The one package-level variable that its road reads (kind.kinds) holds what its text lays; a bound on sizes is not asked.
-/
import Derived.Test.YtnhkaggpknfeeaaGreatDoorSnapNilW
import Derived.Test.YtnhkaggpknfeeaaGreatDoorSnapNilF
import Derived.Test.YtnhkaggpknfeeaaGreatDoorLaidF
import Derived.Test.YtnhkaggpknfeeaaGreatDoorTie
import Derived.Test.YtnhkaggpknfeeaaGreatDoorCards
import Derived.SevenTiedAt
import Derived.ChangeMaps5
namespace Go.Proofs.YtnhkaggpknfeeaaGreatDoor.snapNil
open Go.ChangeShapes Go.WideShapes Go.ChangeAt Go.RowKit Go.E
set_option maxRecDepth 100000

theorem lifted (os : Os) (started : os.Started) (H : Type) (enc : TypeId × Value → H) :
    ReturnsInHanded {} Tryz.checked os 11 .any (fun w args => (Rows.snapNilSpec.pre enc Tryz.prog Tryz.f11 [] false w args ∧ laidMetH Tryz.prog kindsLaid w) ∧ sizedMet enc Tryz.prog Tryz.f11 (OpenSpec.ofChange Rows.snapNilSpec) false w args)
      (Rows.snapNilSpec.post enc Tryz.prog Tryz.f11 false true false false) := by
  refine returnsInHanded_of_change_and (C := Tryz.checked) (X := fun w _ => laidMetH Tryz.prog kindsLaid w) (fun _ _ _ hh h => h.of_heap hh) own started (by kernel_rfl) Tryz.func11
    (ChangeSpec.witness_shaped (enc := enc) (C := Tryz.checked) (os := os) (X := fun w _ => laidMetH Tryz.prog kindsLaid w) false (World.doorLaid Tryz.prog 400 os) #[.string ByteArray.empty] 8 rfl (World.shaped_of_RefB (by kernel_rfl) (by kernel_rfl)) (by kernel_rfl) (by kernel_rfl) (by kernel_rfl) (door_met os _)) ?_
  intro W base args ds gs before hval0 hW _ _ hL _
  have hval : ∀ (j : Nat) t v, Tryz.f11.params[j]? = some t → args[j]? = some v → Value.okWide Tryz.prog W .any base t v := hval0
  have hW' := hW
  obtain ⟨p, q, hA0, hV, rfl, hfz, hnd⟩ := hW
  have hA : DataW.TrodAll enc Tryz.prog W 0 (fun _ => true) true Tryz.f11.params.toList args.toList ds p := hA0
  rw [Tryz.params11] at hA hval
  obtain ⟨v0, d0, rfl, rfl, h0⟩ := trodAll_one hA
  obtain ⟨rfl, rfl⟩ := trodVars_none hV
  simp only [List.append_nil] at hW'
  have hlt : ∀ x ∈ p, x.block < W.heap.size := fun x hx => by simpa using hW'.lt x hx
  have h0k := h0
  obtain ⟨s, rfl, rfl, rfl, _⟩ := Go.ChangeMaps.open_string Tryz.underlying9 (hval 0 9 v0 rfl rfl) h0
  refine (walk (x := .string s) rfl hL).mono fun e W' ⟨he, hb⟩ => ?_
  subst he
  have harg0 := Below.trod laidOut (by kernel_rfl) (of_decide_eq_true (by kernel_rfl)) h0k hb hlt
  exact ⟨_, rfl, _, _, _, [], _, [], hW', trodAll_mk1 (shut_bool Tryz.underlying4 _), trodAll_mk1 harg0, rfl, hb.frame _, fun h => by cases h⟩

theorem facts : joinedFacts Tryz.prog 11 Tryz.f11 Rows.snapNilSpec Rows.snapNilRow = true :=
  joined_mk (by kernel_rfl) laidOut mapsRow (by kernel_rfl) (by kernel_rfl) (by kernel_rfl) (by kernel_rfl) (by kernel_rfl) (by kernel_rfl) r10 r11 r12 r13 (by kernel_rfl) (by kernel_rfl) (by kernel_rfl) (by kernel_rfl) (by kernel_rfl) (by kernel_rfl) (by kernel_rfl) (by kernel_rfl)
    (by kernel_rfl) keysPlain (by kernel_rfl) heard enters lifts (by kernel_rfl) (by kernel_rfl) (by kernel_rfl) (by kernel_rfl) (by kernel_rfl) (by kernel_rfl)
theorem named11 : Tryz.prog.funcNamed "earshot/earshotlaw24.SnapNil" = some 11 := by kernel_rfl
theorem inst11 : Tryz.f11.isInstance Tryz.prog Rows.snapNilRow.origin Rows.snapNilRow.targs := of_decide_eq_true (by kernel_rfl)
theorem wrap11 : Tryz.f11.isWrapper Tryz.prog Rows.snapNilRow.wrapper Rows.snapNilRow.mainSum := by unfold Func.isWrapper; first | (rw [if_pos (by decide +kernel)]; kernel_rfl) | (rw [if_neg (by decide +kernel)]; exact ⟨rfl, rfl⟩)
theorem said : Rows.SnapNilSaid :=
  OpenClaim.holds_of_wide 11 Tryz.f11 rfl rfl rfl rfl rfl rfl rfl ⟨rfl, rfl, rfl, rfl, rfl⟩ rfl rfl rfl rfl rfl named11 Tryz.func11 facts inst11 wrap11
    (fun os started H enc _ => lifted os started H enc)

/-- THE TIED CARD. -/
theorem holds : Rows.SnapNilCardSaid :=
  Claim7.holds_tied_plain_at .later [] [.data] true (true, "749aa3d1a5a9552d828ae2035a22a67d57db4e4167211d11e27e7e5deabb5073") false
    said (fun _ h => by cases h) wfText (fun _ h => by cases h) snapNil_row_tie rfl ⟨rfl, rfl⟩ mains rfl
    (fun f fn hf hfn => by
      obtain rfl : f = 11 := Option.some.inj (named11.symm.trans hf) |>.symm
      obtain rfl : fn = Tryz.f11 := (Option.some.inj (Tryz.func11.symm.trans hfn)).symm
      exact ⟨looksNot, fun j t ht => by
        rw [Tryz.params11] at ht
        have hm : t ∈ [9] := by simpa using Array.mem_of_getElem? ht
        have hall : ([9].all fun u => !Tryz.prog.wantsStandIn u) = true := by kernel_rfl
        exact (show Tryz.prog.wantsStandIn t = false by simpa using List.all_eq_true.1 hall t hm)⟩)
    goes
#print axioms holds
end Go.Proofs.YtnhkaggpknfeeaaGreatDoor.snapNil
