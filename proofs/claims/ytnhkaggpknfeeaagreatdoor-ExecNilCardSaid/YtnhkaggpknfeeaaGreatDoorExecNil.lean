/-
  ExecNil: the row, and the card.
-/
import Derived.Test.YtnhkaggpknfeeaaGreatDoorExecNilW
import Derived.Test.YtnhkaggpknfeeaaGreatDoorExecNilF
import Derived.Test.YtnhkaggpknfeeaaGreatDoorLaidF
import Derived.Test.YtnhkaggpknfeeaaGreatDoorTie
import Derived.Test.YtnhkaggpknfeeaaGreatDoorCards
import Derived.SevenTiedAt
namespace Go.Proofs.YtnhkaggpknfeeaaGreatDoor.execNil
open Go.ChangeShapes Go.WideShapes Go.ChangeAt Go.RowKit Go.E
set_option maxRecDepth 100000

theorem st41 : Tryz.prog.cellsOf 41 = 4 := by kernel_rfl
theorem c22 : Tryz.prog.cellsOf 22 = 1 := by kernel_rfl
theorem c39 : Tryz.prog.cellsOf 39 = 1 := by kernel_rfl
theorem c4 : Tryz.prog.cellsOf 4 = 1 := by kernel_rfl

theorem four {H : Type} {enc : TypeId × Value → H} {W : World} {base : Nat} {sp : Nat → Bool} {hd : Bool} {v : Value} {d : DataW H} {p : List MemPlace} (h : DataW.Trod enc Tryz.prog W base sp hd 41 v d p) :
    ∃ x y z u, v = .agg #[x, y, z, u] ∧ Value.oneCell' x = true ∧ Value.oneCell' y = true ∧ Value.oneCell' z = true ∧ Value.oneCell' u = true := by
  obtain ⟨fuel, hf⟩ := h
  obtain ⟨xs, n, _, _, hlen, hxl, hel⟩ := DataW.trod_struct Tryz.underlying41 hf
  rw [st41] at hlen
  have hv : ∃ cs, v = .agg cs ∧ cs.size = 4 := by
    cases v with
    | agg cs => exact ⟨cs, rfl, by simpa [Value.cells] using hlen⟩
    | _ => simp [Value.cells] at hlen
  obtain ⟨cs, rfl, hs⟩ := hv
  obtain ⟨l⟩ := cs
  simp only [List.size_toArray] at hs
  match l, hs with
  | [x, y, z, u], _ =>
    refine ⟨x, y, z, u, rfl, ?_, ?_, ?_, ?_⟩
    · have h0 : DataW.trod enc Tryz.prog W base sp hd n 3 (List.take (Tryz.prog.cellsOf 3) (List.drop 0 [x, y, z, u])) = xs[0]? := hel 0 _ rfl
      rw [List.getElem?_eq_getElem (by rw [hxl]; decide)] at h0
      obtain ⟨k, e1, _⟩ := DataW.trod_int Tryz.underlying3 h0
      have e2 : [x] = [Value.int .i64 k] := by rw [← e1, cKinds]; rfl
      injection e2 with e2
      subst e2; rfl
    · have h0 : DataW.trod enc Tryz.prog W base sp hd n 4 (List.take (Tryz.prog.cellsOf 4) (List.drop 1 [x, y, z, u])) = xs[1]? := hel 1 _ rfl
      rw [List.getElem?_eq_getElem (by rw [hxl]; decide)] at h0
      obtain ⟨k, e1, _⟩ := DataW.trod_bool Tryz.underlying4 h0
      have e2 : [y] = [Value.bool k] := by rw [← e1, c4]; rfl
      injection e2 with e2
      subst e2; rfl
    · have h0 : DataW.trod enc Tryz.prog W base sp hd n 39 (List.take (Tryz.prog.cellsOf 39) (List.drop 2 [x, y, z, u])) = xs[2]? := hel 2 _ rfl
      rw [List.getElem?_eq_getElem (by rw [hxl]; decide)] at h0
      obtain ⟨k, e1, _⟩ := DataW.trod_int Tryz.underlying39 h0
      have e2 : [z] = [Value.int .i64 k] := by rw [← e1, c39]; rfl
      injection e2 with e2
      subst e2; rfl
    · have h0 : DataW.trod enc Tryz.prog W base sp hd n 22 (List.take (Tryz.prog.cellsOf 22) (List.drop 3 [x, y, z, u])) = xs[3]? := hel 3 _ rfl
      rw [List.getElem?_eq_getElem (by rw [hxl]; decide)] at h0
      rcases DataW.trod_slice Tryz.underlying22 h0 with ⟨e1, _⟩ | ⟨a, len, cap, _, _, _, _, e1, _⟩
      · have e2 : [u] = [Value.slice Option.none 0 0] := by rw [← e1, c22]; rfl
        injection e2 with e2
        subst e2; rfl
      · have e2 : [u] = [Value.slice (some a) len cap] := by rw [← e1, c22]; rfl
        injection e2 with e2
        subst e2; rfl

theorem lifted (os : Os) (started : os.Started) (H : Type) (enc : TypeId × Value → H) :
    ReturnsInHanded {} Tryz.checked os 8 .any (fun w args => (Rows.execNilSpec.pre enc Tryz.prog Tryz.f8 [] false w args ∧ laidMetH Tryz.prog kindsLaid w) ∧ sizedMet enc Tryz.prog Tryz.f8 (OpenSpec.ofChange Rows.execNilSpec) false w args)
      (Rows.execNilSpec.post enc Tryz.prog Tryz.f8 false true false false) := by
  refine returnsInHanded_of_change_and (C := Tryz.checked) (X := fun w _ => laidMetH Tryz.prog kindsLaid w) (fun _ _ _ hh h => h.of_heap hh) own started (by kernel_rfl) Tryz.func8
    (ChangeSpec.witness_shaped (enc := enc) (C := Tryz.checked) (os := os) (X := fun w _ => laidMetH Tryz.prog kindsLaid w) false (World.doorLaid Tryz.prog 400 os) #[.int .i64 0, .agg #[.int .i64 0, .bool false, .int .i64 0, .slice Option.none 0 0]] 8 rfl (World.shaped_of_RefB (by kernel_rfl) (by kernel_rfl)) (by kernel_rfl) (by kernel_rfl) (by kernel_rfl) (door_met os _)) ?_
  intro W base args ds gs before hval0 hW _ _ hL _
  have hval : ∀ (j : Nat) t v, Tryz.f8.params[j]? = some t → args[j]? = some v → Value.okWide Tryz.prog W .any base t v := hval0
  have hW' := hW
  obtain ⟨p, q, hA0, hV, rfl, hfz, hnd⟩ := hW
  have hA : DataW.TrodAll enc Tryz.prog W 0 (fun _ => true) true Tryz.f8.params.toList args.toList ds p := hA0
  rw [Tryz.params8] at hA hval
  obtain ⟨v0, v1, d0, d1, p0, p1, rfl, rfl, rfl, h0, h1⟩ := trodAll_two hA
  obtain ⟨rfl, rfl⟩ := trodVars_none hV
  simp only [List.append_nil] at hW'
  have hlt : ∀ x ∈ p0 ++ p1, x.block < W.heap.size := fun x hx => by simpa using hW'.lt x hx
  have h0k := h0
  obtain ⟨n, rfl, _, rfl, _⟩ := open_int Tryz.underlying3 (hval 0 3 v0 rfl rfl) h0
  obtain ⟨x, y, z, u, rfl, hx, hy, hz, hu⟩ := four h1
  refine (walk (x := .int .i64 n) rfl hx hy hz hu hL).mono fun e W' ⟨he, hb⟩ => ?_
  subst he
  have harg0 := Below.trod laidOut (by kernel_rfl) (of_decide_eq_true (by kernel_rfl)) h0k hb (fun x hx => hlt x (List.mem_append.2 (.inl hx)))
  have harg1 := Below.trod laidOut (by kernel_rfl) (of_decide_eq_true (by kernel_rfl)) h1 hb (fun x hx => hlt x (List.mem_append.2 (.inr hx)))
  exact ⟨_, rfl, _, _, _, [], _, [], hW', trodAll_mk1 (shut_bool Tryz.underlying4 _), trodAll_mk2 harg0 harg1, rfl, hb.frame _, fun h => by cases h⟩

theorem facts : joinedFacts Tryz.prog 8 Tryz.f8 Rows.execNilSpec Rows.execNilRow = true :=
  joined_mk (by kernel_rfl) laidOut mapsRow (by kernel_rfl) (by kernel_rfl) (by kernel_rfl) (by kernel_rfl) (by kernel_rfl) (by kernel_rfl) r10 r11 r12 r13 (by kernel_rfl) (by kernel_rfl) (by kernel_rfl) (by kernel_rfl) (by kernel_rfl) (by kernel_rfl) (by kernel_rfl) (by kernel_rfl)
    (by kernel_rfl) keysPlain (by kernel_rfl) heard enters lifts (by kernel_rfl) (by kernel_rfl) (by kernel_rfl) (by kernel_rfl) (by kernel_rfl) (by kernel_rfl)
theorem named8 : Tryz.prog.funcNamed "earshot/earshotlaw23.ExecNil" = some 8 := by kernel_rfl
theorem inst8 : Tryz.f8.isInstance Tryz.prog Rows.execNilRow.origin Rows.execNilRow.targs := of_decide_eq_true (by kernel_rfl)
theorem wrap8 : Tryz.f8.isWrapper Tryz.prog Rows.execNilRow.wrapper Rows.execNilRow.mainSum := by unfold Func.isWrapper; first | (rw [if_pos (by decide +kernel)]; kernel_rfl) | (rw [if_neg (by decide +kernel)]; exact ⟨rfl, rfl⟩)
theorem said : Rows.ExecNilSaid :=
  OpenClaim.holds_of_wide 8 Tryz.f8 rfl rfl rfl rfl rfl rfl rfl ⟨rfl, rfl, rfl, rfl, rfl⟩ rfl rfl rfl rfl rfl named8 Tryz.func8 facts inst8 wrap8
    (fun os started H enc _ => lifted os started H enc)

/-- THE TIED CARD. -/
theorem holds : Rows.ExecNilCardSaid :=
  Claim7.holds_tied_plain_at .later [] [.data] true (true, "749aa3d1a5a9552d828ae2035a22a67d57db4e4167211d11e27e7e5deabb5073") false
    said (fun _ h => by cases h) wfText (fun _ h => by cases h) execNil_row_tie rfl ⟨rfl, rfl⟩ mains rfl
    (fun f fn hf hfn => by
      obtain rfl : f = 8 := Option.some.inj (named8.symm.trans hf) |>.symm
      obtain rfl : fn = Tryz.f8 := (Option.some.inj (Tryz.func8.symm.trans hfn)).symm
      exact ⟨looksNot, fun j t ht => by
        rw [Tryz.params8] at ht
        have hm : t ∈ [3, 41] := by simpa using Array.mem_of_getElem? ht
        have hall : ([3, 41].all fun u => !Tryz.prog.wantsStandIn u) = true := by kernel_rfl
        exact (show Tryz.prog.wantsStandIn t = false by simpa using List.all_eq_true.1 hall t hm)⟩)
    goes
#print axioms holds
end Go.Proofs.YtnhkaggpknfeeaaGreatDoor.execNil
