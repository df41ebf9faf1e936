/-
  THE ENGINE, PART R: chunks by other numbers; a state that covers another one.
-/
import Derived.Test.YtnhkaggpknfeeaaGreatDoorEngY
namespace Go.E
open Go

section
variable {E : Env} {nt : Nat} {w0 : World} {S0 W0 : Nat → Prop} {m : Nat} {ρ0 ρ : Nat → Bk} {S : Nat → Prop} {w w' : World} {s : St} {a : Act}

/-! ### names, otherwise -/
mutual
def V.ren (σ : Nat → Nat) : V → V
  | .d x => .d x
  | .pp ds => .pp ds
  | .pr n sz f => .pr n sz f
  | .loc c off => .loc (σ c) off
  | .re c i k sz => .re (σ c) i k sz
  | .ms c off n cap sz => .ms (σ c) off n cap sz
  | .z q => .z q
  | .mp c => .mp (σ c)
  | .yl c => .yl (σ c)
  | .agg vs => .agg (V.renL σ vs)
  | .fn f as bs => .fn f (V.renL σ as) (V.renL σ bs)
  | .tup vs => .tup (V.renL σ vs)
def V.renL (σ : Nat → Nat) : List V → List V
  | [] => []
  | v :: vs => V.ren σ v :: V.renL σ vs
end
mutual
/-- All its names are below n. -/
def V.okN (n : Nat) : V → Bool
  | .loc c _ => Nat.blt c n
  | .re c _ _ _ => Nat.blt c n
  | .ms c _ _ _ _ => Nat.blt c n
  | .mp c => Nat.blt c n
  | .yl c => Nat.blt c n
  | .agg vs => V.okL n vs
  | .fn _ as bs => V.okL n as && V.okL n bs
  | .tup vs => V.okL n vs
  | _ => true
def V.okL (n : Nat) : List V → Bool
  | [] => true
  | v :: vs => V.okN n v && V.okL n vs
end
theorem blt_out {a b : Nat} (h : Nat.blt a b = true) : a < b := by simpa [Nat.blt_eq] using h

theorem V.ren_both {N n : Nat} {σ : Nat → Nat} (v : V) : ∀ x, RV ρ N S w (v.ren σ) x → v.okN n = true → RV (fun c => ρ (σ c)) n S w v x := by
  refine V.rec (motive_1 := fun v => ∀ x, RV ρ N S w (v.ren σ) x → v.okN n = true → RV (fun c => ρ (σ c)) n S w v x)
    (motive_2 := fun vs => ∀ xs, RVs ρ N S w (V.renL σ vs) xs → V.okL n vs = true → RVs (fun c => ρ (σ c)) n S w vs xs) ?_ ?_ ?_ ?_ ?_ ?_ ?_ ?_ ?_ ?_ ?_ ?_ ?_ ?_ v
  · intro d x h _
    simp only [V.ren] at h
    cases h with | d h => exact .d h
  · intro ds x h _
    simp only [V.ren] at h
    cases h with | pp g h1 h2 h3 => exact .pp g h1 h2 h3
  · intro n' sz f x h _
    simp only [V.ren] at h
    cases h with | pr g h1 h2 h3 h4 => exact .pr g h1 h2 h3 h4
  · intro c off x h hk
    simp only [V.ren] at h
    simp only [V.okN] at hk
    cases h with | loc h => exact .loc (ρ := fun c => ρ (σ c)) (blt_out hk)
  · intro c i k sz x h hk
    simp only [V.ren] at h
    simp only [V.okN] at hk
    cases h with | re h => exact .re (ρ := fun c => ρ (σ c)) (blt_out hk)
  · intro c off n' cap sz x h hk
    simp only [V.ren] at h
    simp only [V.okN] at hk
    cases h with | ms h h' h'' => exact .ms (ρ := fun c => ρ (σ c)) (blt_out hk) h' h''
  · intro q x h hk
    simp only [V.ren] at h
    cases h with
    | z0 h => exact .z0 h
    | z1 h => exact .z1 h
  · intro c x h hk
    simp only [V.ren] at h
    simp only [V.okN] at hk
    cases h with | mp h => exact .mp (ρ := fun c => ρ (σ c)) (blt_out hk)
  · intro c x h hk
    simp only [V.ren] at h
    simp only [V.okN] at hk
    cases h with | yl h => exact .yl (ρ := fun c => ρ (σ c)) (blt_out hk)
  · intro vs ih x h hk
    simp only [V.ren] at h
    simp only [V.okN] at hk
    cases h with | agg h1 h2 =>
    have := ih _ ⟨h1, h2⟩ hk
    exact .agg this.1 this.2
  · intro f as bs ih ih' x h hk
    simp only [V.ren] at h
    simp only [V.okN, Bool.and_eq_true] at hk
    cases h with | fn h1 h2 h3 h4 =>
    have g := ih _ ⟨h1, h2⟩ hk.1
    have g' := ih' _ ⟨h3, h4⟩ hk.2
    exact .fn g.1 g.2 g'.1 g'.2
  · intro vs ih x h hk
    simp only [V.ren] at h
    simp only [V.okN] at hk
    cases h with | tup h1 h2 =>
    have := ih _ ⟨h1, h2⟩ hk
    exact .tup this.1 this.2
  · intro xs h _
    simp only [V.renL] at h
    rw [h.nil_eq]; exact .nil
  · intro v vs ih ih' xs h hk
    simp only [V.renL] at h
    simp only [V.okL, Bool.and_eq_true] at hk
    obtain ⟨y, ys, rfl, h1, h2⟩ := h.cons_eq
    exact .cons (ih _ h1 hk.1) (ih' _ h2 hk.2)

theorem V.ren_back {N n : Nat} {σ : Nat → Nat} (hσ : ∀ c, c < n → σ c < N) (v : V) : ∀ x, RV (fun c => ρ (σ c)) n S w v x → RV ρ N S w (v.ren σ) x := by
  refine V.rec (motive_1 := fun v => ∀ x, RV (fun c => ρ (σ c)) n S w v x → RV ρ N S w (v.ren σ) x)
    (motive_2 := fun vs => ∀ xs, RVs (fun c => ρ (σ c)) n S w vs xs → RVs ρ N S w (V.renL σ vs) xs) ?_ ?_ ?_ ?_ ?_ ?_ ?_ ?_ ?_ ?_ ?_ ?_ ?_ ?_ v
  · intro d x h
    simp only [V.ren]
    cases h with | d h => exact .d h
  · intro ds x h
    simp only [V.ren]
    cases h with | pp g h1 h2 h3 => exact .pp g h1 h2 h3
  · intro n' sz f x h
    simp only [V.ren]
    cases h with | pr g h1 h2 h3 h4 => exact .pr g h1 h2 h3 h4
  · intro c off x h
    simp only [V.ren]
    cases h with | loc h => exact .loc (hσ _ h)
  · intro c i k sz x h
    simp only [V.ren]
    cases h with | re h => exact .re (hσ _ h)
  · intro c off n' cap sz x h
    simp only [V.ren]
    cases h with | ms h h' h'' => exact .ms (hσ _ h) h' h''
  · intro q x h
    simp only [V.ren]
    cases h with
    | z0 h => exact .z0 h
    | z1 h => exact .z1 h
  · intro c x h
    simp only [V.ren]
    cases h with | mp h => exact .mp (hσ _ h)
  · intro c x h
    simp only [V.ren]
    cases h with | yl h => exact .yl (hσ _ h)
  · intro vs ih x h
    simp only [V.ren]
    cases h with | agg h1 h2 =>
    have := ih _ ⟨h1, h2⟩
    exact .agg this.1 this.2
  · intro f as bs ih ih' x h
    simp only [V.ren]
    cases h with | fn h1 h2 h3 h4 =>
    have g := ih _ ⟨h1, h2⟩
    have g' := ih' _ ⟨h3, h4⟩
    exact .fn g.1 g.2 g'.1 g'.2
  · intro vs ih x h
    simp only [V.ren]
    cases h with | tup h1 h2 =>
    have := ih _ ⟨h1, h2⟩
    exact .tup this.1 this.2
  · intro xs h
    simp only [V.renL]
    rw [h.nil_eq]; exact .nil
  · intro v vs ih ih' xs h
    simp only [V.renL]
    obtain ⟨y, ys, rfl, h1, h2⟩ := h.cons_eq
    exact .cons (ih _ h1) (ih' _ h2)

def Ch.ren (σ : Nat → Nat) : Ch → Ch
  | .cells ty vs => .cells ty (V.renL σ vs)
  | .rows ty n q sz f => .rows ty n q sz fun i => V.renL σ (f i)
  | .mp es => .mp (es.map fun p => (p.1, p.2.ren σ))
  | .lp rb st pend sl dk => .lp rb st pend (sl.map fun p => p.map (V.ren σ)) (σ dk)
  | .dq op => .dq op
def okM (n : Nat) : List (Value × V) → Bool
  | [] => true
  | p :: r => p.2.okN n && okM n r
def Ch.okN (n : Nat) : Ch → Prop
  | .cells _ vs => V.okL n vs = true
  | .rows _ k _ _ f => ∀ i, i < k → V.okL n (f i) = true
  | .mp es => okM n es = true
  | .lp rb _ _ sl dk => (∀ i v, sl.get none i = some v → i < rb.nt → v.okN n = true) ∧ dk < n
  | .dq _ => True

theorem renL_both {N n : Nat} {σ : Nat → Nat} {vs : List V} {xs : List Value} (h : RVs ρ N S w (V.renL σ vs) xs) (hk : V.okL n vs = true) : RVs (fun c => ρ (σ c)) n S w vs xs := by
  induction vs generalizing xs with
  | nil => simp only [V.renL] at h; rw [h.nil_eq]; exact .nil
  | cons v vs ih =>
    simp only [V.renL] at h
    simp only [V.okL, Bool.and_eq_true] at hk
    obtain ⟨y, ys, rfl, h1, h2⟩ := h.cons_eq
    exact .cons (V.ren_both v _ h1 hk.1) (ih h2 hk.2)
theorem renL_back {N n : Nat} {σ : Nat → Nat} (hσ : ∀ c, c < n → σ c < N) {vs : List V} {xs : List Value} (h : RVs (fun c => ρ (σ c)) n S w vs xs) : RVs ρ N S w (V.renL σ vs) xs := by
  induction vs generalizing xs with
  | nil => simp only [V.renL]; rw [h.nil_eq]; exact .nil
  | cons v vs ih =>
    simp only [V.renL]
    obtain ⟨y, ys, rfl, h1, h2⟩ := h.cons_eq
    exact .cons (V.ren_back hσ v _ h1) (ih h2)

theorem renL_get {σ : Nat → Nat} : ∀ {vs : List V} {k : Nat}, (V.renL σ vs)[k]? = (vs[k]?).map (V.ren σ)
  | [], k => by simp [V.renL]
  | v :: vs, k => by cases k with
    | zero => simp [V.renL]
    | succ k => simp [V.renL, renL_get]
theorem okL_get {n : Nat} : ∀ {vs : List V} {k : Nat} {v : V}, V.okL n vs = true → vs[k]? = some v → v.okN n = true
  | [], k, v, _, h => by simp at h
  | u :: vs, k, v, hk, h => by
    simp only [V.okL, Bool.and_eq_true] at hk
    cases k with
    | zero => simp at h; subst h; exact hk.1
    | succ k => exact okL_get hk.2 (by simpa using h)
theorem renL_len {σ : Nat → Nat} : ∀ {vs : List V}, (V.renL σ vs).length = vs.length
  | [] => rfl
  | v :: vs => by simp [V.renL, renL_len]
theorem mp_renL {σ : Nat → Nat} : ∀ (es : List (Value × V)), (es.map fun p => (p.1, p.2.ren σ)).map (·.2) = V.renL σ (es.map (·.2))
  | [] => rfl
  | p :: es => by simp [V.renL, mp_renL es]
theorem okM_L {n : Nat} : ∀ (es : List (Value × V)), okM n es = V.okL n (es.map (·.2))
  | [] => rfl
  | p :: es => by simp [okM, V.okL, okM_L es]

theorem HC.ren_both {N n c : Nat} {σ : Nat → Nat} {ch : Ch} (h : HC ρ N S w (σ c) (ch.ren σ)) (hk : ch.okN n) : HC (fun c => ρ (σ c)) n S w c ch := by
  cases ch with
  | cells ty vs =>
    obtain ⟨xs, h1, h2, h3⟩ := h
    exact ⟨xs, h1, renL_both h2 hk, h3⟩
  | rows ty k q sz f =>
    obtain ⟨xs, h1, h2, h3⟩ := h
    refine ⟨xs, h1, h2, fun i hi => ⟨by rw [← (h3 i hi).1, renL_len], fun j d hd => ?_⟩⟩
    obtain ⟨b, g1, g2⟩ := (h3 i hi).2 j (d.ren σ) (by rw [renL_get, hd]; rfl)
    exact ⟨b, g1, V.ren_both d _ g2 (okL_get (hk i hi) hd)⟩
  | mp es =>
    obtain ⟨ms, clk, h1, h2, h3⟩ := h
    refine ⟨ms, clk, h1, by rw [h2, List.map_map]; rfl, ?_⟩
    rw [mp_renL] at h3
    have hk' : okM n es = true := hk
    rw [okM_L] at hk'
    exact renL_both h3 hk'
  | lp rb st pend sl dq =>
    obtain ⟨fn, tmps, h1, h2, h3⟩ := h
    refine ⟨fn, tmps, h1, ⟨h2.1, hk.2⟩, fun i v hv hi => ?_⟩
    obtain ⟨x, h4, h5⟩ := h3 i (v.ren σ) (by rw [Tr.get_map rfl, hv]; rfl) hi
    exact ⟨x, h4, V.ren_both v x h5 (hk.1 i v hv hi)⟩
  | dq op => exact h
theorem HC.ren_back {N n c : Nat} {σ : Nat → Nat} (hσ : ∀ c, c < n → σ c < N) {ch : Ch} (h : HC (fun c => ρ (σ c)) n S w c ch) : HC ρ N S w (σ c) (ch.ren σ) := by
  cases ch with
  | cells ty vs =>
    obtain ⟨xs, h1, h2, h3⟩ := h
    exact ⟨xs, h1, renL_back hσ h2, h3⟩
  | rows ty k q sz f =>
    obtain ⟨xs, h1, h2, h3⟩ := h
    refine ⟨xs, h1, h2, fun i hi => ⟨by rw [renL_len]; exact (h3 i hi).1, fun j d hd => ?_⟩⟩
    rw [renL_get] at hd
    cases hq : (f i)[j]? with
    | none => rw [hq] at hd; simp at hd
    | some d0 =>
      rw [hq] at hd; simp at hd; subst hd
      obtain ⟨b, g1, g2⟩ := (h3 i hi).2 j d0 hq
      exact ⟨b, g1, V.ren_back hσ d0 _ g2⟩
  | mp es =>
    obtain ⟨ms, clk, h1, h2, h3⟩ := h
    refine ⟨ms, clk, h1, by rw [h2, List.map_map]; rfl, ?_⟩
    rw [mp_renL]
    exact renL_back hσ h3
  | lp rb st pend sl dq =>
    obtain ⟨fn, tmps, h1, h2, h3⟩ := h
    refine ⟨fn, tmps, h1, ⟨h2.1, hσ _ h2.2⟩, fun i v hv hi => ?_⟩
    rw [Tr.get_map rfl] at hv
    cases hq : sl.get none i with
    | none => rw [hq] at hv; cases hv
    | some u =>
      rw [hq] at hv
      simp at hv; subst hv
      obtain ⟨x, h4, h5⟩ := h3 i u hq hi
      exact ⟨x, h4, V.ren_back hσ u x h5⟩
  | dq op => exact h

/-! ### a state that covers another one -/
/-- σ by a list: the first m names stay, name m + j is ks[j]. -/
def sg (m : Nat) (ks : List Nat) (c : Nat) : Nat := bif Nat.blt c m then c else match nth ks (c - m) with
  | some k => k
  | none => 0

def covS (s : St) (σ : Nat → Nat) (n : Nat) : List (Nat × V) → Prop
  | [] => True
  | (i, v) :: r => (match look i s.slots with
    | some u => vLe u (v.ren σ) ∧ v.okN n = true
    | none => False) ∧ covS s σ n r
def covH (s : St) (σ : Nat → Nat) (n : Nat) : Nat → List (Option Ch) → Prop
  | _, [] => True
  | j, none :: r => covH s σ n (j + 1) r
  | j, some ch :: r => (match nth s.hp (σ j) with
    | some (some c0) => chLe c0 (ch.ren σ) ∧ ch.okN n
    | _ => False) ∧ covH s σ n (j + 1) r
def noDup : List Nat → Bool
  | [] => true
  | x :: l => !(l.any (Nat.beq x)) && noDup l

/-- Calls put off: as they are said. -/
def covD (σ : Nat → Nat) (n : Nat) : List Df → List Df → Prop
  | [], [] => True
  | .call f us vs :: r, .call g us' vs' :: r' => (f = g ∧ (vLeL us (V.renL σ us') ∧ V.okL n us' = true) ∧ (vLeL vs (V.renL σ vs') ∧ V.okL n vs' = true)) ∧ covD σ n r r'
  | .mark c :: r, .mark c' :: r' => (c = σ c' ∧ c' < n) ∧ covD σ n r r'
  | _, _ => False

/-- s is as t says, where t's chunk m + j is s's chunk ks[j]. -/
structure Cov (m : Nat) (s t : St) (ks : List Nat) : Prop where
  len : m + ks.length = t.hp.length
  ge : ks.all (fun k => Nat.ble m k && Nat.blt k s.hp.length) = true
  nd : noDup ks = true
  slots : covS s (sg m ks) t.hp.length t.slots
  hp : covH s (sg m ks) t.hp.length 0 t.hp
  df : covD (sg m ks) t.hp.length s.df t.df

theorem covS.out {σ : Nat → Nat} {n : Nat} : ∀ {l : List (Nat × V)}, covS s σ n l → ∀ i v, look i l = some v → ∃ u, look i s.slots = some u ∧ vLe u (v.ren σ) ∧ v.okN n = true
  | [], _, i, v, h => by simp [look] at h
  | (j, u) :: r, h, i, v, hl => by
    simp only [look] at hl
    cases hb : Nat.beq i j with
    | true =>
      rw [hb] at hl
      have e : i = j := Nat.eq_of_beq_eq_true hb
      subst e
      simp at hl; subst hl
      have h1 := h.1
      split at h1
      · rename_i u hu; exact ⟨u, hu, h1⟩
      · exact h1.elim
    | false =>
      rw [hb] at hl
      exact covS.out h.2 i v hl
theorem covH.out {σ : Nat → Nat} {n : Nat} : ∀ {l : List (Option Ch)} {j : Nat}, covH s σ n j l → ∀ c ch, l[c]? = some (some ch) → ∃ c0, s.hp[σ (j + c)]? = some (some c0) ∧ chLe c0 (ch.ren σ) ∧ ch.okN n
  | [], _, _, c, ch, h => by simp at h
  | o :: r, j, h, c, ch, hl => by
    cases c with
    | zero =>
      simp at hl; subst hl
      have h1 := h.1
      rw [nth_eq] at h1
      split at h1
      · rename_i c0 hc0; exact ⟨c0, hc0, h1⟩
      · exact h1.elim
    | succ c =>
      have h' : covH s σ n (j + 1) r := by cases o <;> first | exact h | exact h.2
      have := covH.out h' c ch (by simpa using hl)
      rwa [show j + 1 + c = j + (c + 1) by omega] at this

theorem noDup.out : ∀ {l : List Nat}, noDup l = true → ∀ (i j x : Nat), l[i]? = some x → l[j]? = some x → i = j
  | [], _, i, j, x, h, _ => by simp at h
  | y :: l, h, i, j, x, hi, hj => by
    simp only [noDup, Bool.and_eq_true, Bool.not_eq_true'] at h
    have hn : ∀ k, l[k]? ≠ some y := fun k hk => by
      have := List.any_eq_false.1 h.1 y (List.mem_of_getElem? hk)
      simp at this
    cases i with
    | zero => cases j with
      | zero => rfl
      | succ j => simp at hi hj; subst hi; exact absurd hj (hn j)
    | succ i => cases j with
      | zero => simp at hi hj; subst hj; exact absurd hi (hn i)
      | succ j => simp at hi hj; rw [noDup.out h.2 i j x hi hj]

theorem sg_lt {m : Nat} {ks : List Nat} {c : Nat} (h : c < m) : sg m ks c = c := by
  have : Nat.blt c m = true := by simpa [Nat.blt_eq] using h
  simp [sg, this]
theorem sg_ge {m : Nat} {ks : List Nat} {c k : Nat} (h : m ≤ c) (hk : ks[c - m]? = some k) : sg m ks c = k := by
  have : Nat.blt c m = false := by
    cases hb : Nat.blt c m with
    | false => rfl
    | true => exact absurd (blt_out hb) (by omega)
  simp [sg, this, nth_eq, hk]

theorem covD.out {σ : Nat → Nat} {N n : Nat} : ∀ {l l' : List Df} {ds : List Deferred}, covD σ n l l' → RDf ρ N S w l ds → RDf (fun c => ρ (σ c)) n S w l' ds
  | [], [], ds, _, h => h
  | .call f us vs :: r, .call g us' vs' :: r', ds, hc, h => by
    obtain ⟨xs, ys, ds', rfl, h1, h2, h3⟩ := h
    obtain ⟨⟨rfl, ⟨a1, a2⟩, ⟨b1, b2⟩⟩, hr⟩ := hc
    exact ⟨xs, ys, ds', rfl, renL_both (vLeL.out a1 h1) a2, renL_both (vLeL.out b1 h2) b2, covD.out hr h3⟩
  | .mark c :: r, .mark c' :: r', ds, hc, h => by
    obtain ⟨ds', rfl, h1, h2⟩ := h
    obtain ⟨⟨rfl, a2⟩, hr⟩ := hc
    exact ⟨ds', rfl, a2, covD.out hr h2⟩
  | [], .call _ _ _ :: _, _, hc, _ => hc.elim
  | [], .mark _ :: _, _, hc, _ => hc.elim
  | .call _ _ _ :: _, [], _, hc, _ => hc.elim
  | .mark _ :: _, [], _, hc, _ => hc.elim
  | .call _ _ _ :: _, .mark _ :: _, _, hc, _ => hc.elim
  | .mark _ :: _, .call _ _ _ :: _, _, hc, _ => hc.elim

theorem Inv.cov {M : Nat} {t : St} {ks : List Nat} (inv : Inv E nt w0 S0 W0 m ρ0 ρ S w s a) (hM : m ≤ M) (h : Cov M s t ks) : Inv E nt w0 S0 W0 m ρ0 (fun c => ρ (sg M ks c)) S w t a := by
  have hall := List.all_eq_true.1 h.ge
  have hks : ∀ c, M ≤ c → c < t.hp.length → ∃ k, ks[c - M]? = some k ∧ sg M ks c = k ∧ M ≤ k ∧ k < s.hp.length := fun c h1 h2 => by
    have hlt : c - M < ks.length := by have := h.len; omega
    have hg : ks[c - M]? = some ks[c - M] := List.getElem?_eq_getElem hlt
    have := hall _ (List.getElem_mem hlt)
    simp only [Bool.and_eq_true] at this
    exact ⟨_, hg, sg_ge h1 hg, Nat.le_of_ble_eq_true this.1, blt_out this.2⟩
  have hinj : ∀ c c', c < t.hp.length → c' < t.hp.length → sg M ks c = sg M ks c' → c = c' := fun c c' h1 h2 e => by
    rcases Nat.lt_or_ge c M with hc | hc <;> rcases Nat.lt_or_ge c' M with hc' | hc'
    · rwa [sg_lt hc, sg_lt hc'] at e
    · obtain ⟨k, _, e', hm, _⟩ := hks c' hc' h2
      rw [sg_lt hc, e'] at e; omega
    · obtain ⟨k, _, e', hm, _⟩ := hks c hc h1
      rw [sg_lt hc', e'] at e; omega
    · obtain ⟨k, hk, e', _, _⟩ := hks c hc h1
      obtain ⟨k', hk', e'', _, _⟩ := hks c' hc' h2
      rw [e', e''] at e; subst e
      have := noDup.out h.nd _ _ _ hk hk'
      omega
  have hat := fun c ch hc => covH.out h.hp c ch hc
  simp only [Nat.zero_add] at hat
  refine { inv with slots := ?_, heap := ?_, hist := ?_, par := ?_, le := by have := h.len; omega, new := ?_, glob := ?_, defers := covD.out h.df inv.defers }
  · intro i v hv
    obtain ⟨u, h1, h2, h3⟩ := covS.out h.slots i v hv
    obtain ⟨x, hx, hr⟩ := inv.slots i _ h1
    exact ⟨x, hx, V.ren_both v x (h2 _ _ _ _ _ hr) h3⟩
  · refine ⟨fun c ch hc => ?_, fun c ch hc => ?_, fun c c' ch ch' hc hc' e => ?_, inv.heap.old⟩
    · obtain ⟨c0, h1, h2, h3⟩ := hat c ch hc
      exact (h2 _ _ _ _ _ (inv.heap.at_ _ _ h1)).ren_both h3
    · obtain ⟨c0, h1, _⟩ := hat c ch hc
      exact inv.heap.out _ _ h1
    · obtain ⟨c0, h1, _⟩ := hat c ch hc
      obtain ⟨c1, h2, _⟩ := hat c' ch' hc'
      have := inv.heap.inj _ _ _ _ h1 h2 e
      exact hinj c c' (List.getElem?_eq_some_iff.1 hc).1 (List.getElem?_eq_some_iff.1 hc').1 this
  · have hh := inv.hist
    exact ⟨hh.os, hh.tape, hh.output, hh.size, hh.blk, hh.per⟩
  · intro c hc
    simp only [sg_lt (Nat.lt_of_lt_of_le hc hM)]; exact inv.par c hc
  · intro c ch hc
    obtain ⟨c0, h1, _⟩ := hat c ch hc
    exact inv.new _ _ h1
  · intro g ds hg
    exact (inv.glob g ds hg).mono (Nat.le_refl _) (fun _ h => absurd h (by omega)) (fun _ h => h) (fun _ _ => rfl)

end
end Go.E
