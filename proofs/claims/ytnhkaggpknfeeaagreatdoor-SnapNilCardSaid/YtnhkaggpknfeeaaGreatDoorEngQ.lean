/-
  THE ENGINE, PART Q: ways that only add to the heap: two of them are compared by what they wrote alone.
-/
import Derived.Test.YtnhkaggpknfeeaaGreatDoorEngF
namespace Go.E
open Go
noncomputable section

section
variable {E : Env} {nt : Nat} {w0 : World} {S0 W0 : Nat → Prop} {m : Nat} {ρ0 ρ : Nat → Bk} {S : Nat → Prop} {w w' : World} {s : St} {a : Act} {es es' : ES}

/-! ### names that are there -/
theorem V.ok_of {N : Nat} (v : V) : ∀ x, RV ρ N S w v x → v.okN N = true := by
  refine V.rec (motive_1 := fun v => ∀ x, RV ρ N S w v x → v.okN N = true)
    (motive_2 := fun vs => ∀ xs, RVs ρ N S w vs xs → V.okL N vs = true) ?_ ?_ ?_ ?_ ?_ ?_ ?_ ?_ ?_ ?_ ?_ ?_ ?_ ?_ v
  · intro d x _; rfl
  · intro ds x _; rfl
  · intro n' sz f x _; rfl
  · intro c off x h; cases h with | loc h => exact blt_t h
  · intro c i k sz x h; cases h with | re h => exact blt_t h
  · intro c off n' cap sz x h; cases h with | ms h _ _ => exact blt_t h
  · intro q x _; rfl
  · intro c x h; cases h with | mp h => exact blt_t h
  · intro c x h; cases h with | yl h => exact blt_t h
  · intro vs ih x h; cases h with | agg h1 h2 => exact ih _ ⟨h1, h2⟩
  · intro f as bs ih ih' x h
    cases h with | fn h1 h2 h3 h4 =>
    simp only [V.okN, Bool.and_eq_true]
    exact ⟨ih _ ⟨h1, h2⟩, ih' _ ⟨h3, h4⟩⟩
  · intro vs ih x h; cases h with | tup h1 h2 => exact ih _ ⟨h1, h2⟩
  · intro xs _; rfl
  · intro v vs ih ih' xs h
    obtain ⟨y, ys, rfl, h1, h2⟩ := h.cons_eq
    simp only [V.okL, Bool.and_eq_true]
    exact ⟨ih _ h1, ih' _ h2⟩
theorem okL_of {N : Nat} : ∀ {vs : List V} {xs : List Value}, RVs ρ N S w vs xs → V.okL N vs = true
  | [], _, _ => rfl
  | v :: vs, xs, h => by
    obtain ⟨y, ys, rfl, h1, h2⟩ := h.cons_eq
    simp only [V.okL, Bool.and_eq_true]
    exact ⟨V.ok_of v _ h1, okL_of h2⟩
theorem okL_all {n : Nat} : ∀ {vs : List V}, (∀ (k : Nat) (v : V), vs[k]? = some v → v.okN n = true) → V.okL n vs = true
  | [], _ => rfl
  | v :: vs, h => by
    simp only [V.okL, Bool.and_eq_true]
    exact ⟨h 0 v rfl, okL_all fun k u hk => h (k + 1) u (by simpa using hk)⟩

theorem V.same {N n : Nat} {σ : Nat → Nat} (hn : N ≤ n) (hσ : ∀ c, c < N → σ c = c) (v : V) : v.okN N = true → v.ren σ = v ∧ v.okN n = true := by
  have bl : ∀ {c : Nat}, Nat.blt c N = true → σ c = c ∧ Nat.blt c n = true := fun {c} h => ⟨hσ _ (blt_o h), blt_t (Nat.lt_of_lt_of_le (blt_o h) hn)⟩
  refine V.rec (motive_1 := fun v => v.okN N = true → v.ren σ = v ∧ v.okN n = true)
    (motive_2 := fun vs => V.okL N vs = true → V.renL σ vs = vs ∧ V.okL n vs = true) ?_ ?_ ?_ ?_ ?_ ?_ ?_ ?_ ?_ ?_ ?_ ?_ ?_ ?_ v
  · intro d _; exact ⟨rfl, rfl⟩
  · intro ds _; exact ⟨rfl, rfl⟩
  · intro n' sz f _; exact ⟨rfl, rfl⟩
  · intro c off h; obtain ⟨h1, h2⟩ := bl (show Nat.blt c N = true from h); exact ⟨by simp only [V.ren, h1], h2⟩
  · intro c i k sz h; obtain ⟨h1, h2⟩ := bl (show Nat.blt c N = true from h); exact ⟨by simp only [V.ren, h1], h2⟩
  · intro c off n' cap sz h; obtain ⟨h1, h2⟩ := bl (show Nat.blt c N = true from h); exact ⟨by simp only [V.ren, h1], h2⟩
  · intro q _; exact ⟨rfl, rfl⟩
  · intro c h; obtain ⟨h1, h2⟩ := bl (show Nat.blt c N = true from h); exact ⟨by simp only [V.ren, h1], h2⟩
  · intro c h; obtain ⟨h1, h2⟩ := bl (show Nat.blt c N = true from h); exact ⟨by simp only [V.ren, h1], h2⟩
  · intro vs ih h; obtain ⟨h1, h2⟩ := ih h; exact ⟨by simp only [V.ren, h1], h2⟩
  · intro f as bs ih ih' h
    simp only [V.okN, Bool.and_eq_true] at h ⊢
    obtain ⟨h1, h2⟩ := ih h.1
    obtain ⟨h3, h4⟩ := ih' h.2
    exact ⟨by simp only [V.ren, h1, h3], h2, h4⟩
  · intro vs ih h; obtain ⟨h1, h2⟩ := ih h; exact ⟨by simp only [V.ren, h1], h2⟩
  · intro _; exact ⟨rfl, rfl⟩
  · intro v vs ih ih' h
    simp only [V.okL, Bool.and_eq_true] at h ⊢
    obtain ⟨h1, h2⟩ := ih h.1
    obtain ⟨h3, h4⟩ := ih' h.2
    exact ⟨by simp only [V.renL, h1, h3], h2, h4⟩
theorem sameL {N n : Nat} {σ : Nat → Nat} (hn : N ≤ n) (hσ : ∀ c, c < N → σ c = c) : ∀ {vs : List V}, V.okL N vs = true → V.renL σ vs = vs ∧ V.okL n vs = true
  | [], _ => ⟨rfl, rfl⟩
  | v :: vs, h => by
    simp only [V.okL, Bool.and_eq_true] at h ⊢
    obtain ⟨h1, h2⟩ := V.same hn hσ v h.1
    obtain ⟨h3, h4⟩ := sameL hn hσ h.2
    exact ⟨by simp only [V.renL, h1, h3], h2, h4⟩

theorem HC.ok_of {N c : Nat} {ch : Ch} (h : HC ρ N S w c ch) : ch.okN N := by
  cases ch with
  | cells ty vs =>
    obtain ⟨xs, h1, h2, h3⟩ := h
    exact okL_of h2
  | rows ty k q sz f =>
    obtain ⟨xs, h1, h2, h3⟩ := h
    intro i hi
    refine okL_all fun j d hd => ?_
    obtain ⟨b, g1, g2⟩ := (h3 i hi).2 j d hd
    exact V.ok_of d _ g2
  | mp es =>
    obtain ⟨ms, clk, h1, h2, h3⟩ := h
    show okM N es = true
    rw [okM_L]; exact okL_of h3
  | lp rb st pend sl dq =>
    obtain ⟨fn, tmps, h1, h2, h3⟩ := h
    refine ⟨fun i v hv hi => ?_, h2.2⟩
    obtain ⟨x, _, h5⟩ := h3 i v hv hi
    exact V.ok_of v x h5
  | dq op => trivial
theorem Ch.same {N n : Nat} {σ : Nat → Nat} (hn : N ≤ n) (hσ : ∀ c, c < N → σ c = c) {ch : Ch} (h : ch.okN N) : chLe ch (ch.ren σ) ∧ ch.okN n := by
  cases ch with
  | cells ty vs =>
    obtain ⟨h1, h2⟩ := sameL hn hσ (show V.okL N vs = true from h)
    exact ⟨.cells (.of h1.symm), h2⟩
  | rows ty k q sz f =>
    exact ⟨.rows fun i hi => .of (sameL hn hσ (h i hi)).1.symm, fun i hi => (sameL hn hσ (h i hi)).2⟩
  | mp es =>
    have h' : okM N es = true := h
    rw [okM_L] at h'
    obtain ⟨h1, h2⟩ := sameL hn hσ h'
    refine ⟨.mp (by rw [List.map_map]; rfl) (by rw [mp_renL]; exact .of h1.symm), ?_⟩
    show okM n es = true
    rw [okM_L]; exact h2
  | lp rb st pend sl dq =>
    obtain ⟨h1, h2⟩ := h
    refine ⟨?_, fun i v hv hi => (V.same hn hσ v (h1 i v hv hi)).2, Nat.lt_of_lt_of_le h2 hn⟩
    rintro ρ N' S w k ⟨fn, tmps, g1, g2, g3⟩
    refine ⟨fn, tmps, by rw [hσ _ h2]; exact g1, ⟨g2.1, by rw [hσ _ h2]; exact g2.2⟩, fun i v hv hi => ?_⟩
    rw [Tr.get_map rfl] at hv
    cases hq : sl.get none i with
    | none => rw [hq] at hv; cases hv
    | some u =>
      rw [hq] at hv
      simp at hv; subst hv
      rw [(V.same hn hσ u (h1 i u hq hi)).1]
      exact g3 i u hq hi
  | dq op => exact ⟨chLe.refl _, trivial⟩

/-! ### what is put off -/
def okD (n : Nat) : List Df → Prop
  | [] => True
  | .call _ us vs :: r => (V.okL n us = true ∧ V.okL n vs = true) ∧ okD n r
  | .mark c :: r => c < n ∧ okD n r
theorem okD_of {N : Nat} : ∀ {df : List Df} {ds : List Deferred}, RDf ρ N S w df ds → okD N df
  | [], _, _ => trivial
  | .call _ _ _ :: _, _, ⟨_, _, _, _, h1, h2, h3⟩ => ⟨⟨okL_of h1, okL_of h2⟩, okD_of h3⟩
  | .mark _ :: _, _, ⟨_, _, h1, h2⟩ => ⟨h1, okD_of h2⟩
theorem covD.same {N n : Nat} {σ : Nat → Nat} (hn : N ≤ n) (hσ : ∀ c, c < N → σ c = c) : ∀ {df : List Df}, okD N df → covD σ n df df
  | [], _ => trivial
  | .call _ us vs :: _, ⟨⟨h1, h2⟩, h3⟩ => by
    obtain ⟨a1, a2⟩ := sameL hn hσ h1
    obtain ⟨b1, b2⟩ := sameL hn hσ h2
    exact ⟨⟨rfl, ⟨by rw [a1]; exact vLeL.refl _, a2⟩, by rw [b1]; exact vLeL.refl _, b2⟩, covD.same hn hσ h3⟩
  | .mark c :: _, ⟨h1, h3⟩ => ⟨⟨(hσ c h1).symm, Nat.lt_of_lt_of_le h1 hn⟩, covD.same hn hσ h3⟩

/-! ### what only adds -/
structure Adds (D : List Nat) (es e : ES) : Prop where
  sl : ∀ i, D.contains i = false → e.sl.get none i = es.sl.get none i
  n : es.h.n ≤ e.h.n
  t : ∀ c, c < es.h.n → e.h.t.get none c = es.h.t.get none c
  df : e.df = es.df
theorem Adds.refl {D : List Nat} {es : ES} : Adds D es es := ⟨fun _ _ => rfl, Nat.le_refl _, fun _ _ => rfl, rfl⟩
theorem Adds.trans {D : List Nat} {es e1 e2 : ES} (h : Adds D es e1) (k : Adds D e1 e2) : Adds D es e2 :=
  ⟨fun i hi => (k.sl i hi).trans (h.sl i hi), Nat.le_trans h.n k.n, fun c hc => (k.t c (Nat.lt_of_lt_of_le hc h.n)).trans (h.t c hc), k.df.trans h.df⟩

def inD (D : List Nat) : Option Tmp → Bool
  | some d => D.contains d
  | none => true
theorem putE.adds {D : List Nat} {dst : Option Tmp} {v : V} (h : putE nt dst v es = some es') (hd : inD D dst = true) : Adds D es es' := by
  cases dst with
  | none => simp only [putE, Option.some.injEq] at h; subst h; exact .refl
  | some d =>
    simp only [putE] at h
    cases hb : Nat.blt d nt with
    | false => rw [hb] at h; cases h
    | true =>
      rw [hb] at h
      simp only [cond_true] at h
      split at h
      · rename_i t ht
        have := some_eq h; subst this
        refine ⟨fun i hi => ?_, Nat.le_refl _, fun _ _ => rfl, rfl⟩
        show t.get none i = _
        rw [Tr.get_set ht, if_neg]
        intro e; subst e
        have hd' : D.contains i = true := hd
        rw [hd'] at hi; cases hi
      · cases h
theorem newE.adds {ch : Ch} {v : Nat → V} {u : V} {h h' : HS} (e : newE h ch v = some (u, h')) : h.n ≤ h'.n ∧ ∀ c, c < h.n → h'.t.get none c = h.t.get none c := by
  unfold newE at e
  split at e
  · rename_i h1 hp
    have := some_eq e
    injection this with e1 e2
    subst e2
    unfold pushC at hp
    split at hp
    · rename_i t ht
      rw [fN_eq] at hp
      have := some_eq hp; subst this
      refine ⟨Nat.le_succ _, fun c hc => ?_⟩
      show t.get none c = _
      rw [Tr.get_set ht, if_neg (by omega)]
    · cases hp
  · cases e
def addB : Op → Bool
  | .alloc _ => true
  | .box _ _ => true
  | .makeSlice _ _ _ => true
  | .buildSlice _ _ _ => true
  | .makeMap _ none => true
  | _ => false
theorem lift.out {r : Option (V × HS)} {v : V} (h : lift es r = some (v, es')) : ∃ h', r = some (v, h') ∧ es' = { es with h := h' } := by
  unfold lift at h
  split at h
  · rename_i u h1
    have := some_eq h
    injection this with e1 e2
    subst e1; subst e2
    exact ⟨_, rfl, rfl⟩
  · cases h
theorem adds_h {D : List Nat} {h' : HS} (h : es.h.n ≤ h'.n ∧ ∀ c, c < es.h.n → h'.t.get none c = es.h.t.get none c) : Adds D es { es with h := h' } :=
  ⟨fun _ _ => rfl, h.1, h.2, rfl⟩
theorem effE.adds {D : List Nat} {call : CallF} {o : Op} {v : V} (ho : addB o = true) (h : effE E nt call es o = some (v, es')) : Adds D es es' := by
  unfold addB at ho
  split at ho
  · simp only [effE] at h
    obtain ⟨h1, g1, rfl⟩ := lift.out h
    unfold allocE at g1
    split at g1
    · exact adds_h (newE.adds g1)
    · cases g1
  · simp only [effE, eff_box] at h
    split at h
    · obtain ⟨h1, g1, rfl⟩ := lift.out h
      unfold boxE at g1
      rename_i u _
      cases hb : (noTupB u && flatV (cellsOf u)) with
      | false => rw [hb] at g1; cases g1
      | true => rw [hb, cond_true] at g1; exact adds_h (newE.adds g1)
    · cases h
  · simp only [effE, eff_makeSlice] at h
    split at h
    · split at h
      · obtain ⟨h1, g1, rfl⟩ := lift.out h
        unfold makeE at g1
        split at g1
        · split at g1
          · split at g1
            · split at g1
              · split at g1
                · rename_i te _ _ L _ _ C _
                  cases hb : ((decide (0 ≤ L) && (decide (L ≤ C) && (decide ((te.bytes : Int) * C ≤ 281474976710656) && decide (C ≤ 9223372036854775807)))) && !Nat.beq te.size 0) with
                  | false => rw [hb] at g1; cases g1
                  | true =>
                    rw [hb] at g1
                    simp only [cond_true, fN_eq] at g1
                    exact adds_h (newE.adds g1)
                · cases g1
              · cases g1
            · cases g1
          · cases g1
        · cases g1
      · cases h
    · cases h
  · simp only [effE] at h
    unfold eff_buildSlice at h
    rename_i t len parts
    split at h
    · cases hb : Nat.beq len 0 with
      | true =>
        rw [hb] at h
        simp only [cond_true] at h
        split at h
        · obtain ⟨h1, g1, rfl⟩ := lift.out h
          exact adds_h (newE.adds g1)
        · cases h
      | false =>
        rw [hb] at h
        simp only [cond_false] at h
        split at h
        · obtain ⟨h1, g1, rfl⟩ := lift.out h
          exact adds_h (newE.adds g1)
        · cases h
    · split at h
      · split at h
        · obtain ⟨h1, g1, rfl⟩ := lift.out h
          exact adds_h (newE.adds g1)
        · cases h
      · cases h
  · simp only [effE] at h
    obtain ⟨h1, g1, rfl⟩ := lift.out h
    exact adds_h (newE.adds g1)
  · cases ho

theorem stepE.adds {D : List Nat} {call : CallF} {all : List Oper} {o : Oper} (h : stepE E nt call all o es = some es') (hd : inD D o.dst = true) (ho : (silB o.op || addB o.op) = true) : Adds D es es' := by
  unfold stepE at h
  split at h
  · cases hs : silB o.op with
    | true =>
      rw [hs] at h
      simp only [cond_true, putK] at h
      split at h
      · exact putE.adds h hd
      · cases h
    | false =>
      rw [hs] at h ho
      simp only [cond_false, putK2] at h
      split at h
      · rename_i v es1 he
        exact (effE.adds (by simpa using ho) he).trans (putE.adds h hd)
      · cases h
  · exact putE.adds h hd
  · cases h

/-! ### compared by what was written -/
def covSL (σ : Nat → Nat) (n : Nat) (ea eb : ES) : List Nat → Bool
  | [] => true
  | i :: l => (match eb.sl.get none i with
    | none => true
    | some v => match ea.sl.get none i with
      | some u => eqV σ n u v
      | none => false) && covSL σ n ea eb l
def covHN (σ : Nat → Nat) (N0 : Nat) (ea eb : ES) : Nat → Bool
  | 0 => true
  | k + 1 => (match eb.h.t.get none (N0 + k) with
    | none => true
    | some v => match getC ea.h (σ (N0 + k)) with
      | some u => eqC σ eb.h.n u v
      | none => false) && covHN σ N0 ea eb k
def covQ (N0 : Nat) (D : List Nat) (ea eb : ES) (ks : List Nat) : Bool :=
  (Nat.beq (N0 + ks.length) eb.h.n && (ks.all (fun k => Nat.ble N0 k && Nat.blt k ea.h.n) && noDup ks)) && (covSL (sg N0 ks) eb.h.n ea eb D && covHN (sg N0 ks) N0 ea eb ks.length)

theorem covSL.out {σ : Nat → Nat} {n : Nat} {ea eb : ES} : ∀ {l : List Nat}, covSL σ n ea eb l = true → ∀ i, l.contains i = true → ∀ v, eb.sl.get none i = some v → ∃ u, ea.sl.get none i = some u ∧ eqV σ n u v = true
  | [], _, i, hi, _, _ => by simp at hi
  | j :: l, h, i, hi, v, hv => by
    simp only [covSL, Bool.and_eq_true] at h
    by_cases e : i = j
    · subst e
      have h1 := h.1
      rw [hv] at h1
      simp only at h1
      split at h1
      · rename_i u hu; exact ⟨u, hu, h1⟩
      · cases h1
    · refine covSL.out h.2 i ?_ v hv
      simp only [List.contains_cons, Bool.or_eq_true, beq_iff_eq] at hi
      exact hi.resolve_left e
theorem covHN.out {σ : Nat → Nat} {N0 : Nat} {ea eb : ES} : ∀ {k : Nat}, covHN σ N0 ea eb k = true → ∀ c, c < k → ∀ v, eb.h.t.get none (N0 + c) = some v → ∃ u, getC ea.h (σ (N0 + c)) = some u ∧ eqC σ eb.h.n u v = true
  | 0, _, i, hi, _, _ => absurd hi (by omega)
  | k + 1, h, i, hi, v, hv => by
    simp only [covHN, Bool.and_eq_true] at h
    by_cases e : i = k
    · subst e
      have h1 := h.1
      rw [hv] at h1
      simp only at h1
      split at h1
      · rename_i u hu; exact ⟨u, hu, h1⟩
      · cases h1
    · exact covHN.out h.2 i (by omega) v hv

theorem covQ.out {D : List Nat} {ea eb : ES} {ks : List Nat} (inv : Inv E nt w0 S0 W0 m ρ0 ρ S w (es.st nt) a) (fa : Adds D es ea) (fb : Adds D es eb) (h : covQ es.h.n D ea eb ks = true) : Cov es.h.n (ea.st nt) (eb.st nt) ks := by
  unfold covQ at h
  simp only [Bool.and_eq_true] at h
  obtain ⟨⟨h1, h2, h3⟩, h4, h5⟩ := h
  have hlen : (eb.st nt).hp.length = eb.h.n := eb.h.len
  have hN := Nat.eq_of_beq_eq_true h1
  have hes : (es.st nt).hp.length = es.h.n := es.h.len
  have hσ : ∀ c, c < es.h.n → sg es.h.n ks c = c := fun c hc => sg_lt hc
  refine ⟨?_, ?_, h3, ?_, ?_, ?_⟩
  · rw [hlen]; exact hN
  · have : (ea.st nt).hp.length = ea.h.n := ea.h.len
    rw [this]; exact h2
  · rw [hlen]
    have key : (eb.st nt).slots = (List.range nt).filterMap fun i => ((fun i => if i < nt then eb.sl.get none i else none) i).map fun v => (i, v) := by
      show (List.range nt).filterMap _ = _
      apply filterMap_same
      intro i hi
      simp only [if_pos (List.mem_range.1 hi)]
    rw [key]
    refine covS.mk (fun i v hv => ?_) _
    split at hv
    · rename_i hi
      cases hD : D.contains i with
      | true =>
        obtain ⟨u, g1, g2⟩ := covSL.out h4 i hD v hv
        refine ⟨u, ?_, eqV.out u v g2⟩
        rw [ea.look nt i, if_pos hi]; exact g1
      | false =>
        have hv' : es.sl.get none i = some v := by rw [← fb.sl i hD]; exact hv
        refine ⟨v, ?_, ?_⟩
        · rw [ea.look nt i, if_pos hi, fa.sl i hD]; exact hv'
        · obtain ⟨x, _, hr⟩ := inv.slots i v (by rw [es.look nt i, if_pos hi]; exact hv')
          have := V.ok_of v x hr
          rw [hes] at this
          obtain ⟨e1, e2⟩ := V.same (n := eb.h.n) fb.n hσ v this
          exact ⟨.of e1.symm, e2⟩
    · cases hv
  · rw [hlen]
    show covH _ _ _ 0 ((List.range eb.h.n).map (eb.h.t.get none))
    rw [Tr.get_lt_map, List.range_eq_range']
    refine covH.mk (fun c v hv => ?_) _ 0
    split at hv
    · rename_i hc
      by_cases hc' : c < es.h.n
      · have hv' : es.h.t.get none c = some v := by rw [← fb.t c hc']; exact hv
        rw [hσ c hc']
        have g1 : getC ea.h c = some v := by
          unfold getC
          rw [blt_t (Nat.lt_of_lt_of_le hc' fa.n), fa.t c hc']
          exact hv'
        refine ⟨v, getC.of g1, ?_⟩
        have g2 : getC es.h c = some v := by
          unfold getC
          rw [blt_t hc']
          exact hv'
        have g3 := getC.of g2
        rw [nth_eq] at g3
        have := (inv.heap.at_ c v g3).ok_of
        rw [hes] at this
        exact Ch.same fb.n hσ this
      · have e : c = es.h.n + (c - es.h.n) := by omega
        rw [e] at hv ⊢
        obtain ⟨u, g1, g2⟩ := covHN.out h5 (c - es.h.n) (by omega) v hv
        exact ⟨u, getC.of g1, eqC.out g2⟩
    · cases hv
  · show covD _ _ ea.df eb.df
    rw [fa.df, fb.df, hlen]
    exact covD.same (n := eb.h.n) fb.n hσ (by have := okD_of inv.defers; rwa [hes] at this)

end
end
end Go.E
