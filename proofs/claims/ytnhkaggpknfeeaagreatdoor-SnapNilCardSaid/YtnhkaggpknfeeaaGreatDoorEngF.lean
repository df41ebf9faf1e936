/-
  THE ENGINE, PART F: the evaluator: regions that draw their order; code; functions.
-/
import Derived.Test.YtnhkaggpknfeeaaGreatDoorEngE
namespace Go.E
open Go
noncomputable section

section
variable {E : Env} {nt : Nat} {w0 : World} {S0 W0 : Nat → Prop} {m : Nat} {ρ0 ρ : Nat → Bk} {S : Nat → Prop} {w w' : World} {s : St} {a : Act} {es es' : ES}

/-! ### loads that were taken early -/
def ldTmp (o : Oper) : Option (TypeId × Tmp × Tmp) := match o.op, o.dst with
  | .load ty (.tmp t), some d => bif Nat.beq t d then none else some (ty, t, d)
  | _, _ => none
theorem ldTmp.out {o : Oper} {ty : TypeId} {t d : Tmp} (h : ldTmp o = some (ty, t, d)) : o.op = .load ty (.tmp t) ∧ o.dst = some d ∧ t ≠ d := by
  unfold ldTmp at h
  split at h
  · rename_i ty' t' d' h1 h2
    cases hb : Nat.beq t' d' with
    | true => rw [hb] at h; cases h
    | false =>
      rw [hb] at h
      have := some_eq h
      injection this with e1 e2
      injection e2 with e2 e3
      subst e1; subst e2; subst e3
      exact ⟨h1, h2, Nat.ne_of_beq_eq_false hb⟩
  · cases h

def okPut1 (dst : Option Tmp) (o : Oper) : Bool := match ldTmp o with
  | some (_, t, d) => match dst with
    | some x => !(Nat.beq x t) && !(Nat.beq x d)
    | none => true
  | none => true
def okPutL (dst : Option Tmp) (listed : Array Bool) : Nat → List Oper → Bool
  | _, [] => true
  | i, o :: os => (!(listed.getD i false) || okPut1 dst o) && okPutL dst listed (i + 1) os
theorem okPutL.out {dst : Option Tmp} {listed : Array Bool} : ∀ {os : List Oper} {j : Nat}, okPutL dst listed j os = true → ∀ i o, os[i]? = some o → listed.getD (j + i) false = true → okPut1 dst o = true
  | [], _, _, i, o, h, _ => by simp at h
  | p :: os, j, hk, i, o, h, hl => by
    simp only [okPutL, Bool.and_eq_true] at hk
    cases i with
    | zero =>
      simp at h; subst h
      rw [Nat.add_zero] at hl
      have := hk.1
      rw [hl] at this
      simpa using this
    | succ i => exact okPutL.out hk.2 i o (by simpa using h) (by rwa [show j + 1 + i = j + (i + 1) by omega])

/-- Behind operation j: does load o still give what it gave? -/
def again1 (E : Env) (nt : Nat) (ops : Array Oper) (i j : Nat) (es : ES) (o : Oper) : Bool := bif ldE E o.op then (bif waitsB .any ops 3 i j then true else match ldTmp o with
    | some (ty, t, d) => match slotE nt es t with
      | some p => match slotE nt es d with
        | some (.tup []) => true
        | some u => match loadE E ty es p with
          | some v => detV u && eqV (fun c => c) es.h.n v u
          | none => false
        | none => false
      | none => false
    | none => false) else true
def againL (E : Env) (nt : Nat) (ops : Array Oper) (listed : Array Bool) (j : Nat) (es : ES) : Nat → List Oper → Bool
  | _, [] => true
  | i, o :: os => (!(listed.getD i false) || again1 E nt ops i j es o) && againL E nt ops listed j es (i + 1) os
theorem againL.out {ops : Array Oper} {listed : Array Bool} {j : Nat} : ∀ {os : List Oper} {k : Nat}, againL E nt ops listed j es k os = true → ∀ i o, os[i]? = some o → listed.getD (k + i) false = true → again1 E nt ops (k + i) j es o = true
  | [], _, _, i, o, h, _ => by simp at h
  | p :: os, k, hk, i, o, h, hl => by
    simp only [againL, Bool.and_eq_true] at hk
    cases i with
    | zero =>
      simp at h; subst h
      rw [Nat.add_zero] at hl ⊢
      have := hk.1
      rw [hl] at this
      simpa using this
    | succ i =>
      have := againL.out hk.2 i o (by simpa using h) (by rwa [show k + 1 + i = k + (i + 1) by omega])
      rwa [show k + 1 + i = k + (i + 1) by omega] at this

/-- The demands made so far. -/
def DemE (E : Env) (ops : Array Oper) (listed : Array Bool) (a : Act) (H : List (Nat × (World → Prop))) : Prop :=
  ∀ p ∈ H, listed.getD p.1 false = true ∧ ∃ o, ops[p.1]? = some o ∧ ((∀ w, p.2 w) ∨ (ldE E o.op = true ∧ ∀ ty t d, ldTmp o = some (ty, t, d) → ∃ px x, a.tmps[t]? = some px ∧ a.tmps[d]? = some x ∧ (p.2 = fun w' => (Instr.loadAt ty px).run E.P w' = .ok x w') ∧ ∀ ys, x ≠ .tuple ys))

theorem put_other {a : Act} {dst : Option Tmp} {x : Value} {t : Nat} (h : ∀ d, dst = some d → d ≠ t) : (a.put dst x).tmps[t]? = a.tmps[t]? := by
  cases dst with
  | none => rfl
  | some d => simp only [Act.put]; rw [Array.getElem?_setIfInBounds_ne (h d rfl)]

theorem DemE.put {ops : Array Oper} {listed : Array Bool} {a a' : Act} {H : List (Nat × (World → Prop))} {dst : Option Tmp} {x : Value} {j : Nat} (hd : DemE E ops listed a H) (ha : a'.tmps = (a.put dst x).tmps) (hp : okPutL dst listed 0 ops.toList = true) :
    DemE E ops (listed.setIfInBounds j true) a' H := by
  intro p hpH
  obtain ⟨h1, o, h2, h3⟩ := hd p hpH
  refine ⟨getD_set_true h1, o, h2, ?_⟩
  rcases h3 with h3 | ⟨h3, h4⟩
  · exact .inl h3
  · refine .inr ⟨h3, fun ty t d hl => ?_⟩
    obtain ⟨px, y, g1, g2, g3, g5⟩ := h4 ty t d hl
    have hok := okPutL.out hp p.1 o (by simpa using h2) (by simpa using h1)
    unfold okPut1 at hok
    rw [hl] at hok
    simp only at hok
    have hne : ∀ e, dst = some e → e ≠ t ∧ e ≠ d := fun e he => by
      subst he
      simp only [Bool.and_eq_true, Bool.not_eq_true'] at hok
      exact ⟨Nat.ne_of_beq_eq_false hok.1, Nat.ne_of_beq_eq_false hok.2⟩
    refine ⟨px, y, ?_, ?_, g3, g5⟩
    · rw [ha, put_other fun e he => (hne e he).1]; exact g1
    · rw [ha, put_other fun e he => (hne e he).2]; exact g2

/-! ### two ways that come to the same -/
def covSB (nt : Nat) (σ : Nat → Nat) (n : Nat) (ea eb : ES) : Nat → Bool
  | 0 => true
  | i + 1 => (match eb.sl.get none i with
    | none => true
    | some v => match ea.sl.get none i with
      | some u => eqV σ n u v
      | none => false) && covSB nt σ n ea eb i
def rowsB (σ : Nat → Nat) (n : Nat) (f g : Nat → List V) : Nat → Bool
  | 0 => true
  | i + 1 => eqL σ n (f i) (g i) && rowsB σ n f g i
def entsB (σ : Nat → Nat) (n : Nat) : List (Value × V) → List (Value × V) → Bool
  | [], [] => true
  | p :: r, q :: r' => (valSame p.1 q.1 && eqV σ n p.2 q.2) && entsB σ n r r'
  | _, _ => false
def eqC (σ : Nat → Nat) (n : Nat) : Ch → Ch → Bool
  | .cells t us, .cells t' vs => Nat.beq t t' && eqL σ n us vs
  | .rows t k q sz f, .rows t' k' q' sz' g => (Nat.beq t t' && (Nat.beq k k' && (optEq Nat.beq q q' && Nat.beq sz sz'))) && rowsB σ n f g k
  | .mp es, .mp es' => entsB σ n es es'
  | .dq p, .dq q => bEq p q
  | _, _ => false
def covHB (σ : Nat → Nat) (ea eb : ES) : Nat → Bool
  | 0 => true
  | c + 1 => (match eb.h.t.get none c with
    | none => true
    | some v => match getC ea.h (σ c) with
      | some u => eqC σ eb.h.n u v
      | none => false) && covHB σ ea eb c
def covE (nt N0 : Nat) (ea eb : ES) (ks : List Nat) : Bool :=
  (Nat.beq (N0 + ks.length) eb.h.n && (ks.all (fun k => Nat.ble N0 k && Nat.blt k ea.h.n) && noDup ks)) && (covSB nt (sg N0 ks) eb.h.n ea eb nt && (covHB (sg N0 ks) ea eb eb.h.n && (ea.df.isEmpty && eb.df.isEmpty)))

theorem eqL.out {σ : Nat → Nat} {n : Nat} : ∀ {us vs : List V}, eqL σ n us vs = true → vLeL us (V.renL σ vs) ∧ V.okL n vs = true
  | [], [], _ => ⟨trivial, rfl⟩
  | u :: us, v :: vs, h => by
    simp only [eqL, Bool.and_eq_true] at h
    obtain ⟨a1, a2⟩ := eqV.out u v h.1
    obtain ⟨b1, b2⟩ := eqL.out h.2
    exact ⟨⟨a1, b1⟩, by simp [V.okL, a2, b2]⟩
  | [], _ :: _, h => by simp only [eqL] at h; cases h
  | _ :: _, [], h => by simp only [eqL] at h; cases h

theorem rowsB.out {σ : Nat → Nat} {n : Nat} {f g : Nat → List V} : ∀ {k : Nat}, rowsB σ n f g k = true → ∀ i, i < k → eqL σ n (f i) (g i) = true
  | 0, _, i, hi => absurd hi (by omega)
  | k + 1, h, i, hi => by
    simp only [rowsB, Bool.and_eq_true] at h
    by_cases e : i = k
    · subst e; exact h.1
    · exact rowsB.out h.2 i (by omega)

theorem entsB.out {σ : Nat → Nat} {n : Nat} : ∀ {es es' : List (Value × V)}, entsB σ n es es' = true → es.map (·.1) = es'.map (·.1) ∧ vLeL (es.map (·.2)) (V.renL σ (es'.map (·.2))) ∧ okM n es' = true
  | [], [], _ => ⟨rfl, trivial, rfl⟩
  | p :: r, q :: r', h => by
    simp only [entsB, Bool.and_eq_true] at h
    obtain ⟨⟨h1, h2⟩, h3⟩ := h
    obtain ⟨a1, a2, a3⟩ := entsB.out h3
    obtain ⟨b1, b2⟩ := eqV.out _ _ h2
    exact ⟨by simp [valSame.out h1, a1], ⟨b1, a2⟩, by simp [okM, b2, a3]⟩
  | [], _ :: _, h => by simp only [entsB] at h; cases h
  | _ :: _, [], h => by simp only [entsB] at h; cases h

theorem chLe.mp {es es' : List (Value × V)} (h1 : es.map (·.1) = es'.map (·.1)) (h2 : vLeL (es.map (·.2)) (es'.map (·.2))) : chLe (.mp es) (.mp es') := by
  rintro ρ N S w k ⟨ms, clk, g1, g2, g3⟩
  exact ⟨ms, clk, g1, by rw [g2, h1], vLeL.out h2 g3⟩

theorem eqC.out {σ : Nat → Nat} {n : Nat} {x y : Ch} (h : eqC σ n x y = true) : chLe x (y.ren σ) ∧ y.okN n := by
  unfold eqC at h
  split at h
  · rename_i t us t' vs
    simp only [Bool.and_eq_true] at h
    have e := Nat.eq_of_beq_eq_true h.1
    subst e
    obtain ⟨a1, a2⟩ := eqL.out h.2
    exact ⟨.cells a1, a2⟩
  · rename_i t k q sz f t' k' q' sz' g
    simp only [Bool.and_eq_true] at h
    obtain ⟨⟨h1, h2, h3, h4⟩, h5⟩ := h
    have e1 := Nat.eq_of_beq_eq_true h1
    have e2 := Nat.eq_of_beq_eq_true h2
    have e3 := optEq_nat h3
    have e4 := Nat.eq_of_beq_eq_true h4
    subst e1; subst e2; subst e3; subst e4
    exact ⟨.rows fun i hi => (eqL.out (rowsB.out h5 i hi)).1, fun i hi => (eqL.out (rowsB.out h5 i hi)).2⟩
  · rename_i es es'
    obtain ⟨a1, a2, a3⟩ := entsB.out h
    refine ⟨.mp (by rw [a1, List.map_map]; rfl) ?_, a3⟩
    rw [mp_renL]; exact a2
  · rw [bEq.out h]; exact ⟨chLe.refl _, trivial⟩
  · cases h

theorem covSB.out {σ : Nat → Nat} {n : Nat} {ea eb : ES} : ∀ {k : Nat}, covSB nt σ n ea eb k = true → ∀ i, i < k → ∀ v, eb.sl.get none i = some v → ∃ u, ea.sl.get none i = some u ∧ eqV σ n u v = true
  | 0, _, i, hi, _, _ => absurd hi (by omega)
  | k + 1, h, i, hi, v, hv => by
    simp only [covSB, Bool.and_eq_true] at h
    by_cases e : i = k
    · subst e
      have h1 := h.1
      rw [hv] at h1
      simp only at h1
      split at h1
      · rename_i u hu; exact ⟨u, hu, h1⟩
      · cases h1
    · exact covSB.out h.2 i (by omega) v hv
theorem covHB.out {σ : Nat → Nat} {ea eb : ES} : ∀ {k : Nat}, covHB σ ea eb k = true → ∀ c, c < k → ∀ v, eb.h.t.get none c = some v → ∃ u, getC ea.h (σ c) = some u ∧ eqC σ eb.h.n u v = true
  | 0, _, i, hi, _, _ => absurd hi (by omega)
  | k + 1, h, i, hi, v, hv => by
    simp only [covHB, Bool.and_eq_true] at h
    by_cases e : i = k
    · subst e
      have h1 := h.1
      rw [hv] at h1
      simp only at h1
      split at h1
      · rename_i u hu; exact ⟨u, hu, h1⟩
      · cases h1
    · exact covHB.out h.2 i (by omega) v hv

theorem covS.mk {s : St} {σ : Nat → Nat} {n : Nat} {g : Nat → Option V} (h : ∀ i v, g i = some v → ∃ u, look i s.slots = some u ∧ vLe u (v.ren σ) ∧ v.okN n = true) : ∀ l : List Nat, covS s σ n (l.filterMap fun i => (g i).map fun v => (i, v))
  | [] => trivial
  | i :: l => by
    rw [List.filterMap_cons]
    cases hg : g i with
    | none => simpa using covS.mk h l
    | some v =>
      obtain ⟨u, h1, h2⟩ := h i v hg
      refine ⟨?_, covS.mk h l⟩
      rw [h1]; exact h2
theorem covH.mk {s : St} {σ : Nat → Nat} {n : Nat} {g : Nat → Option Ch} (h : ∀ c v, g c = some v → ∃ u, nth s.hp (σ c) = some (some u) ∧ chLe u (v.ren σ) ∧ v.okN n) : ∀ (k j : Nat), covH s σ n j ((List.range' j k).map g)
  | 0, j => trivial
  | k + 1, j => by
    rw [List.range'_succ, List.map_cons]
    cases hg : g j with
    | none => exact covH.mk h k (j + 1)
    | some v =>
      obtain ⟨u, h1, h2⟩ := h j v hg
      refine ⟨?_, covH.mk h k (j + 1)⟩
      rw [h1]; exact h2

theorem filterMap_same {α β : Type} {f g : α → Option β} : ∀ {l : List α}, (∀ i ∈ l, f i = g i) → l.filterMap f = l.filterMap g
  | [], _ => rfl
  | x :: l, h => by
    rw [List.filterMap_cons, List.filterMap_cons, h x List.mem_cons_self, filterMap_same fun i hi => h i (List.mem_cons_of_mem _ hi)]

theorem Tr.get_lt_map (g : Nat → Option Ch) (n : Nat) : (List.range n).map g = (List.range n).map (fun c => if c < n then g c else none) := by
  apply List.map_congr_left
  intro c hc
  rw [if_pos (List.mem_range.1 hc)]

theorem covE.out {N0 : Nat} {ea eb : ES} {ks : List Nat} (h : covE nt N0 ea eb ks = true) : Cov N0 (ea.st nt) (eb.st nt) ks := by
  unfold covE at h
  simp only [Bool.and_eq_true] at h
  obtain ⟨⟨h1, h2, h3⟩, h4, h5, h6, h7⟩ := h
  have hlen : (eb.st nt).hp.length = eb.h.n := eb.h.len
  refine ⟨?_, ?_, h3, ?_, ?_, ?_⟩
  · rw [hlen]; exact Nat.eq_of_beq_eq_true h1
  · have : (ea.st nt).hp.length = ea.h.n := ea.h.len
    rw [this]; exact h2
  · rw [hlen]
    have key : (eb.st nt).slots = (List.range nt).filterMap fun i => ((fun i => if i < nt then eb.sl.get none i else none) i).map fun v => (i, v) := by
      show (List.range nt).filterMap _ = _
      apply filterMap_same
      intro i hi
      simp only [if_pos (List.mem_range.1 hi)]
    rw [key]
    refine covS.mk (fun i v hv => ?_) _
    split at hv
    · rename_i hi
      obtain ⟨u, g1, g2⟩ := covSB.out h4 i hi v hv
      refine ⟨u, ?_, eqV.out u v g2⟩
      rw [ea.look nt i, if_pos hi]; exact g1
    · cases hv
  · rw [hlen]
    show covH _ _ _ 0 ((List.range eb.h.n).map (eb.h.t.get none))
    rw [Tr.get_lt_map, List.range_eq_range']
    refine covH.mk (fun c v hv => ?_) _ 0
    split at hv
    · rename_i hc
      obtain ⟨u, g1, g2⟩ := covHB.out h5 c hc v hv
      exact ⟨u, getC.of g1, eqC.out g2⟩
    · cases hv
  · have e1 : ea.df = [] := by simpa using h6
    have e2 : eb.df = [] := by simpa using h7
    show covD _ _ ea.df eb.df
    rw [e1, e2]; trivial

/-! ### the walk -/
/-- Which names an operation has given in another order. -/
def findT (i : Nat) : List (Nat × Nat × Nat) → Option Nat
  | [] => none
  | (j, s, _) :: r => bif Nat.beq i j then some s else findT i r
def upto (s : Nat) : Nat → List Nat → List Nat
  | 0, r => r
  | k + 1, r => s :: upto (s + 1) k r
def permE (other : List (Nat × Nat × Nat)) : List (Nat × Nat × Nat) → Option (List Nat)
  | [] => some []
  | (i, s, e) :: r => match findT i other with
    | some s' => match permE other r with
      | some l => some (upto s' (e - s) l)
      | none => none
    | none => none

def pickSil (ops : Array Oper) (listed : Array Bool) : List Nat → Option Nat
  | [] => none
  | i :: r => match ops[i]? with
    | some o => bif silB o.op && Region.free .any ops listed i then some i else pickSil ops listed r
    | none => pickSil ops listed r
theorem pickSil.out {ops : Array Oper} {listed : Array Bool} : ∀ {r : List Nat} {i : Nat}, pickSil ops listed r = some i → i ∈ r ∧ ∃ o, ops[i]? = some o ∧ silB o.op = true ∧ Region.free .any ops listed i = true
  | [], i, h => by cases h
  | j :: r, i, h => by
    simp only [pickSil] at h
    split at h
    · rename_i o ho
      cases hb : (silB o.op && Region.free .any ops listed j) with
      | true =>
        rw [hb] at h
        have := some_eq h; subst this
        obtain ⟨h1, h2⟩ := Bool.and_eq_true_iff.1 hb
        exact ⟨List.mem_cons_self, o, ho, h1, h2⟩
      | false =>
        rw [hb] at h
        obtain ⟨g1, g2⟩ := pickSil.out (show pickSil ops listed r = some i from h)
        exact ⟨List.mem_cons_of_mem _ g1, g2⟩
    · obtain ⟨g1, g2⟩ := pickSil.out h
      exact ⟨List.mem_cons_of_mem _ g1, g2⟩

theorem stepE.sil {call : CallF} {ops : Array Oper} {o : Oper} (hE : E.Ok) (inv : Inv E nt w0 S0 W0 m ρ0 ρ S w (es.st nt) a) (hs : silB o.op = true) (h : stepE E nt call ops.toList o es = some es') :
    (Region.wanted o (yielded ops a.tmps) = true ∧ ∃ v x, (∀ w', (ldE E o.op = true → Same (Known ρ S (es.st nt).hp) w w') → (execOp a.eval o).run E.P w' = .ok (.value x) w') ∧ Inv E nt w0 S0 W0 m ρ0 ρ S w (es'.st nt) (a.put o.dst x) ∧ silE E nt es o.op = some v ∧ RV ρ (es.st nt).hp.length S w v x) ∨
    (Region.wanted o (yielded ops a.tmps) = false ∧ Inv E nt w0 S0 W0 m ρ0 ρ S w (es'.st nt) (a.put o.dst undef)) := by
  unfold stepE at h
  split at h
  · rename_i hg
    rw [hs] at h
    simp only [cond_true, putK] at h
    split at h
    · rename_i v hv
      obtain ⟨x, h1, h2⟩ := silE.out hE inv hv
      exact .inl ⟨guardE.out inv hg, v, x, h1, putE.out inv h2 h, hv, h2⟩
    · cases h
  · rename_i hg
    exact .inr ⟨guardE.out inv hg, putE.out inv (.tup (xs := []) rfl (fun k a b h => by simp at h)) h⟩
  · cases h

end
end
end Go.E
