/-
  THE ENGINE, PART J: strings.Join by its contract.
-/
import Derived.Test.YtnhkaggpknfeeaaGreatDoorEngP
import Derived.Lib.Join
namespace Go.E
open Go
noncomputable section
section
variable {E : Env} {ρ : Nat → Bk} {S : Nat → Prop} {w w' : World}

/-- A call that turns nothing of what was there. -/
theorem post_below {hp : List (Option Ch)} {v : V} {x : Value} (hh : Heap ρ S w hp) (hb : RowKit.Below w.heap.size w w') (hr : RV ρ hp.length S w v x) : PostE hp.length ρ S w hp v hp (.returned x) w' := by
  have hS : Same S w w' := fun b hb' => hb.block b (hh.old b hb')
  exact ⟨x, ρ, S, rfl, hr.mono (Nat.le_refl _) (fun _ _ => rfl) (fun _ h => h) hS,
    ⟨fun c ch hc => (hh.at_ c ch hc).mono (Nat.le_refl _) (fun _ _ => rfl) (fun _ h => h) hS rfl (hb.block _ (hh.at_ c ch hc).lt), hh.out, hh.inj, fun b hb' => Nat.lt_of_lt_of_le (hh.old b hb') hb.size⟩,
    ⟨hb.os, hb.tape, hb.output, hb.size, fun b hb' _ => hb.block b hb', fun b hb' => .inl hb'⟩, fun _ _ => rfl, Nat.le_refl _, fun _ h => h, fun c ch hc => .inr ⟨c, ch, hc, rfl⟩⟩

/-- One row that is a string. -/
def strE : List V → Option ByteArray
  | [.d (.v (.string b))] => some b
  | _ => none
def strsE (f : Nat → List V) : Nat → Nat → Option (List ByteArray)
  | _, 0 => some []
  | i, n + 1 => match strE (f i) with
    | some b => match strsE f (i + 1) n with
      | some l => some (b :: l)
      | none => none
    | none => none
theorem strsE.out {f : Nat → List V} : ∀ {n i : Nat} {l : List ByteArray}, strsE f i n = some l → l.length = n ∧ ∀ (j : Nat) b, l[j]? = some b → f (i + j) = [.d (.v (.string b))]
  | 0, i, l, h => by
    have := some_eq h; subst this
    exact ⟨rfl, fun j b hj => by simp at hj⟩
  | n + 1, i, l, h => by
    unfold strsE at h
    split at h
    · rename_i b hb
      split at h
      · rename_i l' hl
        have := some_eq h; subst this
        obtain ⟨h1, h2⟩ := strsE.out hl
        refine ⟨by simp [h1], fun j b' hj => ?_⟩
        cases j with
        | zero =>
          simp at hj; subst hj
          unfold strE at hb
          split at hb
          · rename_i heq
            have := some_eq hb; subst this
            exact heq
          · cases hb
        | succ j =>
          have := h2 j b' (by simpa using hj)
          rw [show i + 1 + j = i + (j + 1) by omega] at this
          exact this
      · cases h
    · cases h

def joinB (xs : List ByteArray) (sep : ByteArray) : List UInt8 := Lib.join (xs.map (·.data.toList)) sep.data.toList
def joinX (f0 : FuncId) : Ext := fun f args h => bif Nat.beq f f0 then (match args with
    | [.ms c off n _ 1, .d (.v (.string sep))] => match getC h c with
      | some (.rows _ n' _ 1 f) => bif Nat.ble (off + n) n' && Nat.ble n 140737488355328 then (match strsE f off n with
        | some xs => bif Nat.ble (joinB xs sep).length 140737488355328 then some (.d (.v (.string ⟨(joinB xs sep).toArray⟩))) else none
        | none => none) else none
      | _ => none
    | _ => none) else none

theorem joinX.ok {f0 : FuncId} (hf : FOk E.P f0)
    (hJ : ∀ (bk o c : Nat) (xs : List ByteArray) (sep : ByteArray) (w : World), (∀ (j : Nat) x, xs[j]? = some x → w.cell? ⟨bk, o + j, none⟩ = some (.string x)) → bk < w.heap.size → xs.length ≤ 140737488355328 → xs.length ≤ c → (Lib.join (xs.map (·.data.toList)) sep.data.toList).length ≤ 140737488355328 →
      Calls E.P f0 #[.slice (some ⟨bk, o, none⟩) xs.length c, .string sep] w fun e w' => e = .returned (.string ⟨(Lib.join (xs.map (·.data.toList)) sep.data.toList).toArray⟩) ∧ RowKit.Below w.heap.size w w') :
    ExtOk E (joinX f0) := by
  intro f args h v e
  unfold joinX at e
  cases hb : Nat.beq f f0 with
  | false => rw [hb] at e; cases e
  | true =>
    have := Nat.eq_of_beq_eq_true hb; subst this
    rw [hb] at e
    simp only [cond_true] at e
    refine ⟨hf, fun ρ S w xs hx hh hg => ?_⟩
    split at e
    · rename_i c off n q sep
      split at e
      · rename_i ty n' q' g hc
        cases hcond : (Nat.ble (off + n) n' && Nat.ble n 140737488355328) with
        | false => rw [hcond] at e; cases e
        | true =>
        rw [hcond] at e
        simp only [cond_true] at e
        obtain ⟨q1, q2⟩ := Bool.and_eq_true_iff.1 hcond
        have q1 := Nat.le_of_ble_eq_true q1
        have q2 := Nat.le_of_ble_eq_true q2
        split at e
        · rename_i bs hbs
          cases hcond2 : (Nat.ble (joinB bs sep).length 140737488355328) with
          | false => rw [hcond2] at e; cases e
          | true =>
          rw [hcond2] at e
          simp only [cond_true] at e
          have q3 := Nat.le_of_ble_eq_true hcond2
          have := some_eq e; subst this
          obtain ⟨s1, s2⟩ := strsE.out hbs
          obtain ⟨x1, ys, rfl, r1, r2⟩ := hx.cons_eq
          obtain ⟨x2, zs, rfl, r3, r4⟩ := r2.cons_eq
          have := r4.nil_eq; subst this
          have hc' := getC.of hc
          rw [nth_eq] at hc'
          obtain ⟨cs, k1, k2, k3⟩ := hh.at_ c _ hc'
          have hlt := (hh.at_ c _ hc').lt
          have e2 : x2 = .string sep := by cases r3 with | d h => cases h; rfl
          subst e2
          cases r1 with
          | ms c1 c2 c3 =>
            have hcell : ∀ (j : Nat) x, bs[j]? = some x → w.cell? ⟨(ρ c).b, off * 1 + j, none⟩ = some (.string x) := by
              intro j x hj
              have hjn : j < bs.length := (List.getElem?_eq_some_iff.1 hj).1
              have hrow := s2 j x hj
              obtain ⟨b, b1, b2⟩ := (k3 (off + j) (by omega)).2 0 (.d (.v (.string x))) (by rw [hrow]; rfl)
              have e3 : b = .string x := by cases b2 with | d h => cases h; rfl
              subst e3
              have hi : off * 1 + j < cs.length := by
                have := (List.getElem?_eq_some_iff.1 b1).1
                omega
              have b1' : cs[off * 1 + j]? = some (.string x) := by
                have e4 : (off + j) * 1 + 0 = off * 1 + j := by omega
                rw [← e4]; exact b1
              simp [World.cell?, k1]
              simpa using b1'
            have hn : n = bs.length := s1.symm
            subst hn
            refine (hJ (ρ c).b (off * 1) _ bs sep w hcell hlt q2 c2 q3).mono ?_
            rintro e w' ⟨rfl, hbel⟩
            exact post_below hh hbel (.d (.v rfl))
        · cases e
      · cases e
    · cases e
end
end
end Go.E
