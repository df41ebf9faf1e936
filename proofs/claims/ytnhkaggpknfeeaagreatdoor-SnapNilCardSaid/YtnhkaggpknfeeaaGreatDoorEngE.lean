/-
  THE ENGINE, PART E: the evaluator: guards, one operation, regions in order, regions that draw their order.
-/
import Derived.Test.YtnhkaggpknfeeaaGreatDoorEngC
namespace Go.E
open Go
noncomputable section

section
variable {E : Env} {nt : Nat} {w0 : World} {S0 W0 : Nat → Prop} {m : Nat} {ρ0 ρ : Nat → Bk} {S : Nat → Prop} {w w' : World} {s : St} {a : Act} {es es' : ES}

/-! ### slots -/
def slotE (nt : Nat) (es : ES) (d : Tmp) : Option V := bif Nat.blt d nt then es.sl.get none d else none
theorem slotE.out {d : Tmp} {v : V} (inv : Inv E nt w0 S0 W0 m ρ0 ρ S w (es.st nt) a) (h : slotE nt es d = some v) : ∃ x, a.tmps[d]? = some x ∧ RV ρ (es.st nt).hp.length S w v x := by
  refine inv.slots d v ?_
  unfold slotE at h
  rw [es.look nt d]
  by_cases hd : d < nt
  · rw [blt_t hd] at h; rw [if_pos hd]; exact h
  · rw [blt_f hd] at h; cases h

def putE (nt : Nat) (dst : Option Tmp) (v : V) (es : ES) : Option ES := match dst with
  | none => some es
  | some d => bif Nat.blt d nt then (match es.sl.set d (some v) with
    | some t => some { es with sl := t }
    | none => none) else none
theorem putE.out {dst : Option Tmp} {v : V} {x : Value} (inv : Inv E nt w0 S0 W0 m ρ0 ρ S w (es.st nt) a) (hr : RV ρ (es.st nt).hp.length S w v x) (h : putE nt dst v es = some es') :
    Inv E nt w0 S0 W0 m ρ0 ρ S w (es'.st nt) (a.put dst x) := by
  cases dst with
  | none => simp only [putE, Option.some.injEq] at h; subst h; exact inv
  | some d =>
    simp only [putE] at h
    by_cases hd : d < nt
    · rw [blt_t hd] at h
      simp only [cond_true] at h
      split at h
      · rename_i t ht
        have := some_eq h; subst this
        have i2 := inv.put hd hr
        refine { i2 with slots := fun i u hu => ?_ }
        rw [ES.look] at hu
        split at hu
        · rename_i hi
          rw [Tr.get_set ht] at hu
          refine i2.slots i u ?_
          simp only [St.put, look]
          by_cases e : i = d
          · subst e; rw [beq_t rfl]; rw [if_pos rfl] at hu; exact hu
          · rw [beq_f e]; rw [if_neg e] at hu
            simp only [cond_false]
            rw [es.look nt i, if_pos hi]; exact hu
        · cases hu
      · cases h
    · rw [blt_f hd] at h; cases h

/-! ### guards -/
def guardE (nt : Nat) (all : List Oper) (es : ES) (o : Oper) : Option Bool := match o.guard with
  | none => some true
  | some (i, want) => match nth all i with
    | some oi => match oi.dst with
      | some d => match slotE nt es d with
        | some (.tup []) => some false
        | some v => match boolE v with
          | some b => match want with
            | true => some b
            | false => some (!b)
          | none => none
        | none => none
      | none => none
    | none => none
theorem guardE.out {ops : Array Oper} {o : Oper} {b : Bool} (inv : Inv E nt w0 S0 W0 m ρ0 ρ S w (es.st nt) a) (h : guardE nt ops.toList es o = some b) : Region.wanted o (yielded ops a.tmps) = b := by
  unfold guardE at h
  cases hg : o.guard with
  | none => rw [hg] at h; have := some_eq h; subst this; simp [Region.wanted, hg]
  | some p =>
    obtain ⟨i, want⟩ := p
    rw [hg] at h
    simp only at h
    rw [nth_eq] at h
    split at h
    · rename_i oi hoi
      split at h
      · rename_i d hd
        split at h
        · rename_i hv
          have := some_eq h; subst this
          obtain ⟨x, hx, hr⟩ := slotE.out inv hv
          have hoi' : ops[i]? = some oi := by rw [← Array.getElem?_toList]; exact hoi
          cases hr with | tup hl _ =>
          rename_i xs
          have hy : yielded ops a.tmps i = none := by simp [yielded, hoi', hd, hx]
          simp [Region.wanted, hg, hy]
        · rename_i v _ hv
          obtain ⟨x, hx, hr⟩ := slotE.out inv hv
          split at h
          · rename_i t ht
            obtain ⟨t', rfl, e⟩ := vbool.out (boolE.of (k := fun q => q = t) ht rfl) hr
            subst e
            have hoi' : ops[i]? = some oi := by rw [← Array.getElem?_toList]; exact hoi
            have hy : yielded ops a.tmps i = some t' := by simp [yielded, hoi', hd, hx]
            cases want with
            | true => have := some_eq h; subst this; cases t' <;> simp [Region.wanted, hg, hy]
            | false => have := some_eq h; subst this; cases t' <;> simp [Region.wanted, hg, hy]
          · cases h
        · cases h
      · cases h
    · cases h

/-! ### one operation -/
def putK (nt : Nat) (dst : Option Tmp) (es : ES) (r : Option V) : Option ES := match r with
  | some v => putE nt dst v es
  | none => none
def putK2 (nt : Nat) (dst : Option Tmp) (r : Option (V × ES)) : Option ES := match r with
  | some (v, es1) => putE nt dst v es1
  | none => none
def stepE (E : Env) (nt : Nat) (call : CallF) (all : List Oper) (o : Oper) (es : ES) : Option ES := match guardE nt all es o with
  | some true => bif silB o.op then putK nt o.dst es (silE E nt es o.op) else putK2 nt o.dst (effE E nt call es o.op)
  | some false => putE nt o.dst (.tup []) es
  | none => none

theorem put_tmps {a a1 : Act} (h : a1.tmps = a.tmps) (dst : Option Tmp) (x : Value) : (a1.put dst x).tmps = (a.put dst x).tmps := by
  cases dst <;> simp [Act.put, h]

theorem stepE.out {call : CallF} {ops : Array Oper} {o : Oper} {next : Act → World → Prop} {Q : Exit → Act → World → Prop} (hE : E.Ok) (hC : CallOk E call) (inv : Inv E nt w0 S0 W0 m ρ0 ρ S w (es.st nt) a) (h : stepE E nt call ops.toList o es = some es')
    (hn : ∀ ρ' S' w' a', Inv E nt w0 S0 W0 m ρ0 ρ' S' w' (es'.st nt) a' → (∃ x, a'.tmps = (a.put o.dst x).tmps) → next a' w') :
    if Region.wanted o (yielded ops a.tmps) = true then opX E.P o a w next Q else next (a.put o.dst undef) w := by
  unfold stepE at h
  split at h
  · rename_i hg
    rw [if_pos (guardE.out inv hg)]
    cases hs : silB o.op with
    | true =>
      rw [hs] at h
      simp only [cond_true, putK] at h
      split at h
      · rename_i v hv
        obtain ⟨x, h1, h2⟩ := silE.out hE inv hv
        exact opX_of (wp_val (h1 w (fun _ _ _ => rfl)) (hn _ _ _ _ (putE.out inv h2 h) ⟨x, rfl⟩))
      · cases h
    | false =>
      rw [hs] at h
      simp only [cond_false, putK2] at h
      split at h
      · rename_i v es1 hv
        refine opX_mono (effE.out hE hC inv hv) ?_
        rintro a' w' ⟨x, ρ', S', a1, rfl, h1, h2, h3⟩
        exact hn _ _ _ _ (putE.out h2 h3 h) ⟨x, put_tmps h1 _ _⟩
      · cases h
  · rename_i hg
    rw [if_neg (by rw [guardE.out inv hg]; simp)]
    exact hn _ _ _ _ (putE.out inv (.tup (xs := []) rfl (fun k a b h => by simp at h)) h) ⟨undef, rfl⟩
  · cases h

/-! ### in the text's order -/
def regK (r : Option ES) (k : ES → Option ES) : Option ES := match r with
  | some es => k es
  | none => none
def regE (E : Env) (nt : Nat) (call : CallF) (all os : List Oper) : ES → Option ES :=
  List.rec (motive := fun _ => ES → Option ES) (fun es => some es) (fun o _ ih es => regK (stepE E nt call all o es) ih) os
theorem regE_nil {call : CallF} {all : List Oper} : regE E nt call all [] es = some es := rfl
theorem regE_cons {call : CallF} {all os : List Oper} {o : Oper} : regE E nt call all (o :: os) es = (match stepE E nt call all o es with
    | some es' => regE E nt call all os es'
    | none => none) := rfl
theorem regE.out {call : CallF} {ops : Array Oper} {Q : Exit → Act → World → Prop} (hE : E.Ok) (hC : CallOk E call) : ∀ (os : List Oper) (ρ : Nat → Bk) (S : Nat → Prop) (w : World) (es : ES) (a : Act), Inv E nt w0 S0 W0 m ρ0 ρ S w (es.st nt) a → regE E nt call ops.toList os es = some es' →
    (∀ ρ S w a, Inv E nt w0 S0 W0 m ρ0 ρ S w (es'.st nt) a → Q .normal a w) → wpListX E.P ops Q os a w
  | [], ρ, S, w, es, a, inv, h, hK => by
    rw [regE_nil] at h
    have := some_eq h; subst this
    exact hK _ _ _ _ inv
  | o :: os, ρ, S, w, es, a, inv, h, hK => by
    rw [regE_cons] at h
    split at h
    · rename_i es1 h1
      unfold wpListX
      exact stepE.out hE hC inv h1 fun ρ' S' w' a' inv' _ => regE.out hE hC os _ _ _ _ _ inv' h hK
    · cases h

/-! ### the same value -/
def optEq {α : Type} (f : α → α → Bool) : Option α → Option α → Bool
  | none, none => true
  | some a, some b => f a b
  | _, _ => false
def bEq : Bool → Bool → Bool
  | true, true => true
  | false, false => true
  | _, _ => false
theorem bEq.out {a b : Bool} (h : bEq a b = true) : a = b := by cases a <;> cases b <;> first | rfl | cases h
theorem optEq_nat {a b : Option Nat} (h : optEq Nat.beq a b = true) : a = b := by
  cases a <;> cases b <;> first | rfl | (cases h; done) | exact congrArg some (Nat.eq_of_beq_eq_true h)
theorem optEq_bool {a b : Option Bool} (h : optEq bEq a b = true) : a = b := by
  cases a <;> cases b <;> first | rfl | (cases h; done) | exact congrArg some (bEq.out h)
def valSame : Value → Value → Bool
  | .bool a, .bool b => bEq a b
  | .int k a, .int k' b => ikEq k k' && decide (a = b)
  | .string a, .string b => beqL a.data.toList b.data.toList
  | .pointer none, .pointer none => true
  | .nilFunc, .nilFunc => true
  | .map none, .map none => true
  | _, _ => false
theorem valSame.out {a b : Value} (h : valSame a b = true) : a = b := by
  unfold valSame at h
  split at h
  · rw [bEq.out h]
  · rename_i k1 a k2 b
    obtain ⟨h1, h2⟩ := Bool.and_eq_true_iff.1 h
    have e : a = b := by simpa using h2
    rw [ikEq_eq h1, e]
  · rename_i a b
    rw [beqL_eq] at h
    have h2 : a.data.toList = b.data.toList := by simpa using h
    rw [ByteArray.ext (Array.ext' h2)]
  · rfl
  · rfl
  · rfl
  · cases h
def dSame : D → D → Bool
  | .v a, .v b => valSame a b
  | .sl q n _ _, .sl q' n' _ _ => (Nat.beq n 0 && Nat.beq n' 0) && optEq bEq q q'
  | _, _ => false
theorem dSame.out {x y : D} (h : dSame x y = true) : dLe x y := by
  intro S w v hr
  unfold dSame at h
  split at h
  · rw [← valSame.out h]; exact hr
  · obtain ⟨h1, h2⟩ := Bool.and_eq_true_iff.1 h
    obtain ⟨h3, h4⟩ := Bool.and_eq_true_iff.1 h1
    have e3 := Nat.eq_of_beq_eq_true h3
    have e4 := Nat.eq_of_beq_eq_true h4
    have e2 := optEq_bool h2
    subst e3; subst e4; subst e2
    cases hr with
    | nil hq => exact .nil hq
    | e hq => exact .e hq
    | sl g hq _ _ _ _ _ => exact .e hq
  · cases h

mutual
/-- u is v by other names, all of which are below n. -/
def eqV (σ : Nat → Nat) (n : Nat) : V → V → Bool
  | .d x, .d y => dSame x y
  | .loc c o, .loc c' o' => (Nat.beq c (σ c') && Nat.blt c' n) && Nat.beq o o'
  | .re c i k sz, .re c' i' k' sz' => (Nat.beq c (σ c') && Nat.blt c' n) && (Nat.beq i i' && (Nat.beq k k' && Nat.beq sz sz'))
  | .ms c off k q sz, .ms c' off' k' q' sz' => (Nat.beq c (σ c') && Nat.blt c' n) && (Nat.beq off off' && (Nat.beq k k' && (optEq Nat.beq q q' && Nat.beq sz sz')))
  | .z q, .z q' => optEq bEq q q'
  | .mp c, .mp c' => Nat.beq c (σ c') && Nat.blt c' n
  | .yl c, .yl c' => Nat.beq c (σ c') && Nat.blt c' n
  | .agg us, .agg vs => eqL σ n us vs
  | .fn f as bs, .fn g cs ds => Nat.beq f g && (eqL σ n as cs && eqL σ n bs ds)
  | .tup us, .tup vs => eqL σ n us vs
  | _, _ => false
def eqL (σ : Nat → Nat) (n : Nat) : List V → List V → Bool
  | [], [] => true
  | u :: us, v :: vs => eqV σ n u v && eqL σ n us vs
  | _, _ => false
end

theorem vLe.fn {f : FuncId} {as bs cs ds : List V} (h1 : vLeL as cs) (h2 : vLeL bs ds) : vLe (.fn f as bs) (.fn f cs ds) := by
  intro ρ N S w x hr
  cases hr with | fn a1 a2 a3 a4 =>
  have g1 := vLeL.out h1 ⟨a1, a2⟩
  have g2 := vLeL.out h2 ⟨a3, a4⟩
  exact .fn g1.1 g1.2 g2.1 g2.2

theorem eqV.out {σ : Nat → Nat} {n : Nat} (u : V) : ∀ v, eqV σ n u v = true → vLe u (v.ren σ) ∧ v.okN n = true := by
  refine V.rec (motive_1 := fun u => ∀ v, eqV σ n u v = true → vLe u (v.ren σ) ∧ v.okN n = true)
    (motive_2 := fun us => ∀ vs, eqL σ n us vs = true → vLeL us (V.renL σ vs) ∧ V.okL n vs = true) ?_ ?_ ?_ ?_ ?_ ?_ ?_ ?_ ?_ ?_ ?_ ?_ ?_ ?_ u
  · intro x v h
    cases v <;> simp only [eqV] at h <;> first | (cases h; done) | skip
    exact ⟨by simp only [V.ren]; exact .d (dSame.out h), rfl⟩
  · intro ds v h; cases v <;> simp only [eqV] at h <;> cases h
  · intro k sz f v h; cases v <;> simp only [eqV] at h <;> cases h
  · intro c o v h
    cases v <;> simp only [eqV] at h <;> first | (cases h; done) | skip
    simp only [Bool.and_eq_true] at h
    obtain ⟨⟨h1, h2⟩, h3⟩ := h
    rw [Nat.eq_of_beq_eq_true h1, Nat.eq_of_beq_eq_true h3]
    exact ⟨by simp only [V.ren]; exact vLe.refl _, h2⟩
  · intro c i k sz v h
    cases v <;> simp only [eqV] at h <;> first | (cases h; done) | skip
    simp only [Bool.and_eq_true] at h
    obtain ⟨⟨h1, h2⟩, h3, h4, h5⟩ := h
    rw [Nat.eq_of_beq_eq_true h1, Nat.eq_of_beq_eq_true h3, Nat.eq_of_beq_eq_true h4, Nat.eq_of_beq_eq_true h5]
    exact ⟨by simp only [V.ren]; exact vLe.refl _, h2⟩
  · intro c off k q sz v h
    cases v <;> simp only [eqV] at h <;> first | (cases h; done) | skip
    simp only [Bool.and_eq_true] at h
    obtain ⟨⟨h1, h2⟩, h3, h4, h5, h6⟩ := h
    rw [Nat.eq_of_beq_eq_true h1, Nat.eq_of_beq_eq_true h3, Nat.eq_of_beq_eq_true h4, optEq_nat h5, Nat.eq_of_beq_eq_true h6]
    exact ⟨by simp only [V.ren]; exact vLe.refl _, h2⟩
  · intro q v h
    cases v <;> simp only [eqV] at h <;> first | (cases h; done) | skip
    rw [optEq_bool h]
    exact ⟨by simp only [V.ren]; exact vLe.refl _, rfl⟩
  · intro c v h
    cases v <;> simp only [eqV] at h <;> first | (cases h; done) | skip
    simp only [Bool.and_eq_true] at h
    rw [Nat.eq_of_beq_eq_true h.1]
    exact ⟨by simp only [V.ren]; exact vLe.refl _, h.2⟩
  · intro c v h
    cases v <;> simp only [eqV] at h <;> first | (cases h; done) | skip
    simp only [Bool.and_eq_true] at h
    rw [Nat.eq_of_beq_eq_true h.1]
    exact ⟨by simp only [V.ren]; exact vLe.refl _, h.2⟩
  · intro us ih v h
    cases v <;> simp only [eqV] at h <;> first | (cases h; done) | skip
    obtain ⟨h1, h2⟩ := ih _ h
    exact ⟨by simp only [V.ren]; exact .agg h1, h2⟩
  · intro f as bs ih ih' v h
    cases v <;> simp only [eqV] at h <;> first | (cases h; done) | skip
    simp only [Bool.and_eq_true] at h
    obtain ⟨h0, h1, h2⟩ := h
    obtain ⟨a1, a2⟩ := ih _ h1
    obtain ⟨b1, b2⟩ := ih' _ h2
    rw [Nat.eq_of_beq_eq_true h0]
    exact ⟨by simp only [V.ren]; exact .fn a1 b1, by simp [V.okN, a2, b2]⟩
  · intro us ih v h
    cases v <;> simp only [eqV] at h <;> first | (cases h; done) | skip
    obtain ⟨h1, h2⟩ := ih _ h
    exact ⟨by simp only [V.ren]; exact .tup h1, h2⟩
  · intro vs h
    cases vs <;> simp only [eqL] at h <;> first | (cases h; done) | skip
    exact ⟨trivial, rfl⟩
  · intro u us ih ih' vs h
    cases vs <;> simp only [eqL] at h <;> first | (cases h; done) | skip
    simp only [Bool.and_eq_true] at h
    obtain ⟨a1, a2⟩ := ih _ h.1
    obtain ⟨b1, b2⟩ := ih' _ h.2
    exact ⟨⟨a1, b1⟩, by simp [V.okL, a2, b2]⟩

mutual
/-- Is it told by what is said which value it is? -/
def detV : V → Bool
  | .d (.v _) => true
  | .d (.sl (some true) n _ _) => Nat.beq n 0
  | .loc _ _ => true
  | .re _ _ _ _ => true
  | .ms _ _ _ _ _ => true
  | .mp _ => true
  | .yl _ => true
  | .agg us => detL us
  | .tup us => detL us
  | .fn _ as bs => detL as && detL bs
  | _ => false
def detL : List V → Bool
  | [] => true
  | u :: us => detV u && detL us
end

theorem detV.out {N : Nat} (u : V) : ∀ x y, detV u = true → RV ρ N S w u x → RV ρ N S w u y → x = y := by
  refine V.rec (motive_1 := fun u => ∀ x y, detV u = true → RV ρ N S w u x → RV ρ N S w u y → x = y)
    (motive_2 := fun us => ∀ xs ys, detL us = true → RVs ρ N S w us xs → RVs ρ N S w us ys → xs = ys) ?_ ?_ ?_ ?_ ?_ ?_ ?_ ?_ ?_ ?_ ?_ ?_ ?_ ?_ u
  · intro d x y hd h1 h2
    cases d with
    | v z => rw [← RV.scalar h1, ← RV.scalar h2]
    | sl q n sz f =>
      cases q with
      | none => cases hd
      | some b => cases b with
        | false => cases hd
        | true =>
          cases h1 with | d h1 => cases h2 with | d h2 =>
          cases h1 with
          | e hq => exact absurd rfl hq
          | sl g hq _ _ _ _ _ => exact absurd rfl hq
          | nil _ => cases h2 with
            | e hq => exact absurd rfl hq
            | sl g hq _ _ _ _ _ => exact absurd rfl hq
            | nil _ => rfl
  · intro ds x y hd; cases hd
  · intro n sz f x y hd; cases hd
  · intro c off x y _ h1 h2
    cases h1 with | loc _ => cases h2 with | loc _ => rfl
  · intro c i k sz x y _ h1 h2
    cases h1 with | re _ => cases h2 with | re _ => rfl
  · intro c off n q sz x y _ h1 h2
    cases h1 with | ms _ _ _ => cases h2 with | ms _ _ _ => rfl
  · intro q x y hd; cases hd
  · intro c x y _ h1 h2
    cases h1 with | mp _ => cases h2 with | mp _ => rfl
  · intro c x y _ h1 h2
    cases h1 with | yl _ => cases h2 with | yl _ => rfl
  · intro us ih x y hd h1 h2
    simp only [detV] at hd
    cases h1 with | agg a1 a2 => cases h2 with | agg b1 b2 => rw [ih _ _ hd ⟨a1, a2⟩ ⟨b1, b2⟩]
  · intro f as bs ih ih' x y hd h1 h2
    simp only [detV, Bool.and_eq_true] at hd
    cases h1 with | fn a1 a2 a3 a4 => cases h2 with | fn b1 b2 b3 b4 => rw [ih _ _ hd.1 ⟨a1, a2⟩ ⟨b1, b2⟩, ih' _ _ hd.2 ⟨a3, a4⟩ ⟨b3, b4⟩]
  · intro us ih x y hd h1 h2
    simp only [detV] at hd
    cases h1 with | tup a1 a2 => cases h2 with | tup b1 b2 => rw [ih _ _ hd ⟨a1, a2⟩ ⟨b1, b2⟩]
  · intro xs ys _ h1 h2; rw [h1.nil_eq, h2.nil_eq]
  · intro u us ih ih' xs ys hd h1 h2
    simp only [detL, Bool.and_eq_true] at hd
    obtain ⟨x, xs', rfl, a1, a2⟩ := h1.cons_eq
    obtain ⟨y, ys', rfl, b1, b2⟩ := h2.cons_eq
    rw [ih _ _ hd.1 a1 b1, ih' _ _ hd.2 a2 b2]

mutual
theorem ren_id (n : Nat) : ∀ v : V, v.ren (fun c => c) = v
  | .d x => rfl
  | .pp _ => rfl
  | .pr _ _ _ => rfl
  | .loc _ _ => rfl
  | .re _ _ _ _ => rfl
  | .ms _ _ _ _ _ => rfl
  | .z _ => rfl
  | .mp _ => rfl
  | .yl _ => rfl
  | .agg us => by simp only [V.ren]; rw [renL_id n us]
  | .fn f as bs => by simp only [V.ren]; rw [renL_id n as, renL_id n bs]
  | .tup us => by simp only [V.ren]; rw [renL_id n us]
theorem renL_id (n : Nat) : ∀ vs : List V, V.renL (fun c => c) vs = vs
  | [] => rfl
  | v :: vs => by simp only [V.renL]; rw [ren_id n v, renL_id n vs]
end

end
end
end Go.E
