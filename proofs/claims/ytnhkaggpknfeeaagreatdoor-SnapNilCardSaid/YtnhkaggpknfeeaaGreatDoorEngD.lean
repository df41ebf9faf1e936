/-
  THE ENGINE, PART D: regions that draw their order. Demands per operation: what was read early must still be there behind every operation that need not wait for the reader.
-/
import Derived.Test.YtnhkaggpknfeeaaGreatDoorEngO
namespace Go.E
open Go

section
variable {P : Program} {ops : Array Oper} {Q : Exit → Act → World → Prop} {md : Region.Mode}

/-- Does operation j wait for operation i (at most n steps of waiting)? -/
def waitsB (md : Region.Mode) (ops : Array Oper) : Nat → Nat → Nat → Bool
  | 0, _, _ => false
  | n + 1, i, j => match ops[j]? with
    | some o => o.after.any fun e => Region.binds md e && (e.on == i || waitsB md ops n i e.on)
    | none => false

/-- Whatever is listed has all that it waits for listed. -/
def Closed (md : Region.Mode) (ops : Array Oper) (l : Array Bool) : Prop :=
  ∀ p o, ops[p]? = some o → l.getD p false = true → ∀ e ∈ o.after, Region.binds md e = true → l.getD e.on false = true

theorem waits_listed {l : Array Bool} (hc : Closed md ops l) : ∀ {n i j : Nat}, waitsB md ops n i j = true → (∀ o, ops[j]? = some o → ∀ e ∈ o.after, Region.binds md e = true → l.getD e.on false = true) → l.getD i false = true
  | 0, _, _, h, _ => by simp [waitsB] at h
  | n + 1, i, j, h, hj => by
    unfold waitsB at h
    split at h
    · rename_i o ho
      rw [Array.any_eq_true'] at h
      obtain ⟨e, he, h⟩ := h
      simp only [Bool.and_eq_true, Bool.or_eq_true, beq_iff_eq] at h
      have hl := hj o ho e he h.1
      rcases h.2 with h2 | h2
      · rw [h2] at hl; exact hl
      · exact waits_listed hc h2 fun o' ho' e' he' hb => hc _ _ ho' hl e' he' hb
    · simp at h

/-- The demands behind operation j: what held before holds behind it, if j need not wait for the one who asks. -/
def Held (md : Region.Mode) (ops : Array Oper) (n : Nat) (H : List (Nat × (World → Prop))) (j : Nat) (w w' : World) : Prop :=
  ∀ p ∈ H, waitsB md ops n p.1 j = false → p.2 w → p.2 w'

def wpAnyD (P : Program) (md : Region.Mode) (ops : Array Oper) (Q : Exit → Act → World → Prop) (n : Nat) (H : List (Nat × (World → Prop))) : Nat → Array Bool → Act → World → Prop
  | 0, listed, a, w => Region.ready md ops listed = [] ∧ Q .normal a w
  | fuel + 1, listed, a, w =>
    (Region.ready md ops listed = [] → Q .normal a w) ∧
    ∀ j ∈ Region.ready md ops listed, wpOpX P ops Q j (fun a' w' => Held md ops n H j w w' ∧ wpAnyD P md ops Q n H fuel (listed.setIfInBounds j true) a' w') a w

theorem wpAny_of_D {n H} {ro : Option Nat} (hd : deferOk ro ops) : ∀ (fuel : Nat) (listed : Array Bool) (a : Act) (w : World), wpAnyD P md ops Q n H fuel listed a w → wpAnyIn (Fw ro) 0 P md ops Q fuel listed a w
  | 0, _, _, _, h => h
  | fuel + 1, _, _, _, h => ⟨h.1, fun i hi => wpOpIn_mono (fun a' w' h' => wpAny_of_D hd fuel _ a' w' h'.2) (wpOpX_in hd (h.2 i hi))⟩

theorem wpAnyD_weak {n} {H H' : List (Nat × (World → Prop))} (hs : ∀ p ∈ H', p ∈ H) : ∀ (fuel : Nat) (listed : Array Bool) (a : Act) (w : World),
    wpAnyD P md ops Q n H fuel listed a w → wpAnyD P md ops Q n H' fuel listed a w
  | 0, _, _, _, h => h
  | fuel + 1, _, _, _, h => ⟨h.1, fun i hi => wpOpX_mono (fun a' w' h' => ⟨fun p hp => h'.1 p (hs p hp), wpAnyD_weak hs fuel _ a' w' h'.2⟩) (h.2 i hi)⟩

theorem Closed.set {l : Array Bool} {j : Nat} (hc : Closed md ops l) (hj : j ∈ Region.ready md ops l) : Closed md ops (l.setIfInBounds j true) := by
  intro p o ho hp e he hb
  refine getD_set_true ?_
  by_cases hpj : j = p
  · subst hpj
    obtain ⟨_, oj, hoj, hall⟩ := mem_ready.1 hj
    rw [ho] at hoj
    injection hoj with hoj
    subst hoj
    exact hall e he hb
  · rw [getD_set_ne _ hpj] at hp
    exact hc p o ho hp e he hb

theorem Closed.none (k : Nat) : Closed md ops (Array.replicate k false) := by
  intro p o _ hp
  rw [Array.getD_eq_getD_getElem?] at hp
  by_cases h : p < k <;> simp [h] at hp

/-- One that yields its value in every world with S may be taken first: from there on S is a demand. -/
theorem wpAnyD_first {n i : Nat} {oi : Oper} {v : Value} {S : World → Prop} (hi : ops[i]? = some oi) (hsel : ∀ (j : Nat) (o : Oper) cs b, ops[j]? = some o → o.op ≠ .select cs b)
    (hQ : ∀ c a w, Q (.panic c) (a.put oi.dst v) w → Q (.panic c) a w) {H : List (Nat × (World → Prop))} :
    ∀ (fuel : Nat) (listed : Array Bool) (a : Act) (w : World), Closed md ops listed →
      (∀ j oj, ops[j]? = some oj → j ≠ i → listed.getD j true = false → (∀ e ∈ oj.after, Region.binds md e = true → e.on ≠ i) → oi.apart ops oj = true) →
      i ∈ Region.ready md ops listed → YieldsIf P ops S oi v a → S w →
      wpAnyD P md ops Q n ((i, S) :: H) fuel (listed.setIfInBounds i true) (a.put oi.dst v) w → wpAnyD P md ops Q n H (fuel + 1) listed a w := by
  intro fuel
  induction fuel with
  | zero =>
    intro listed a w _ _ hr hy hS hw
    refine ⟨fun h => (by rw [h] at hr; cases hr), fun j hj => ?_⟩
    by_cases hji : j = i
    · subst hji; exact yields_op hi hy hS ⟨fun _ _ _ h => h, hw⟩
    · have := ready_mono hj hji
      rw [hw.1] at this
      cases this
  | succ fuel ih =>
    intro listed a w hc hfree hr hy hS hw
    refine ⟨fun h => (by rw [h] at hr; cases hr), fun j hj => ?_⟩
    by_cases hji : j = i
    · subst hji; exact yields_op hi hy hS ⟨fun _ _ _ h => h, wpAnyD_weak (fun p hp => List.mem_cons_of_mem _ hp) _ _ _ _ hw⟩
    · have h1 := hw.2 j (ready_mono hj hji)
      obtain ⟨hjun, oj, hoj, hall⟩ := mem_ready.1 hj
      have hun : listed.getD i false ≠ true := fun h0 => by
        have h' := (mem_ready.1 hr).1
        rw [Array.getD_eq_getD_getElem?] at h0 h'
        cases hq : listed[i]? with
        | none => rw [hq] at h0; cases h0
        | some b => rw [hq] at h0 h'; simp at h0 h'; rw [h0] at h'; cases h'
      have hnot : ∀ e ∈ oj.after, Region.binds md e = true → e.on ≠ i := fun e he hb heq => hun (heq ▸ hall e he hb)
      have hwait : waitsB md ops n i j = false := by
        cases hq : waitsB md ops n i j with
        | false => rfl
        | true => exact absurd (waits_listed hc hq fun o ho e he hb => by rw [hoj] at ho; injection ho with ho; subst ho; exact hall e he hb) hun
      have h2 := wpOpX_putIf hoj (hfree j oj hoj hji hjun hnot) (fun cs b => hsel i oi cs b hi) (fun cs b => hsel j oj cs b hoj) hQ hy h1
      have hfree' : ∀ k ok, ops[k]? = some ok → k ≠ i → (listed.setIfInBounds j true).getD k true = false →
          (∀ e ∈ ok.after, Region.binds md e = true → e.on ≠ i) → oi.apart ops ok = true := fun k ok hk hki hku hno => by
        refine hfree k ok hk hki ?_ hno
        by_cases hjk : j = k
        · subst hjk; exact hjun
        · rw [getD_set_ne true hjk] at hku; exact hku
      refine wpOpX_mono (fun a' w' h3 => ⟨fun p hp hq hpw => h3.2.1 p (List.mem_cons_of_mem _ hp) hq hpw,
        ih (listed.setIfInBounds j true) a' w' (hc.set hj) hfree' (ready_mono hr (Ne.symm hji)) h3.1 (h3.2.1 (i, S) (List.mem_cons_self ..) hwait hS) ?_⟩) h2
      rw [Array.setIfInBounds_comm _ _ hji]
      exact h3.2.2

theorem wp_region_D {n id : Nat} {ro : Option Nat} {a : Act} {w : World} (hd : deferOk ro ops) (hm : P.follows .mixedOrders = true)
    (h : wpAnyD P .any ops Q n [] ops.size (Array.replicate ops.size false) a { w with drawn := w.drawn + 1 }) : (Code.region id ops true).wpIn (Fw ro) 0 P Q a w :=
  wpIn_region_any hm (wpAny_of_D hd _ _ _ _ h)

end
end Go.E
