/-
  THE ENGINE, PART V: an evaluator for states that are fully known, piece by piece, each held to its word (the functions in ..VC, ..K).
-/
import Derived.Test.YtnhkaggpknfeeaaGreatDoorEng8
namespace Go.E
open Go

/-! ### tries -/
noncomputable section
def setLK {α : Type} (v : α) (r : Tr α) (o : Option (Tr α)) : Option (Tr α) := match o with
  | some l => some (.n v l r)
  | none => none
def setRK {α : Type} (v : α) (l : Tr α) (o : Option (Tr α)) : Option (Tr α) := match o with
  | some r => some (.n v l r)
  | none => none
def Tr.set {α : Type} (t : Tr α) : Nat → α → Option (Tr α) :=
  Tr.rec (motive := fun _ => Nat → α → Option (Tr α)) (fun i x => cond (Nat.beq i 0) (some (.n x .e .e)) none)
    (fun v l r sl sr i x => cond (Nat.beq i 0) (some (.n x l r)) (cond (Nat.beq (Nat.mod i 2) 1) (setLK v r (sl (Nat.div (Nat.sub i 1) 2) x)) (setRK v l (sr (Nat.div (Nat.sub i 1) 2) x)))) t
theorem Tr.set_e {α : Type} {i : Nat} {x : α} : Tr.set .e i x = bif Nat.beq i 0 then some (.n x .e .e) else none := rfl
theorem Tr.set_n {α : Type} {v : α} {l r : Tr α} {i : Nat} {x : α} : Tr.set (.n v l r) i x = bif Nat.beq i 0 then some (.n x l r) else bif Nat.beq (i % 2) 1 then
      (match l.set ((i - 1) / 2) x with
      | some l' => some (.n v l' r)
      | none => none) else
      (match r.set ((i - 1) / 2) x with
      | some r' => some (.n v l r')
      | none => none) := rfl

theorem beq_t {i j : Nat} (h : i = j) : Nat.beq i j = true := by subst h; exact Nat.beq_refl i
theorem beq_f {i j : Nat} (h : i ≠ j) : Nat.beq i j = false := by
  cases hq : Nat.beq i j with
  | false => rfl
  | true => exact absurd (Nat.eq_of_beq_eq_true hq) h

theorem Tr.get_set {α : Type} {d : α} : ∀ {t t' : Tr α} {i : Nat} {x : α}, t.set i x = some t' → ∀ j, t'.get d j = if j = i then x else t.get d j
  | .e, t', i, x, h, j => by
    rw [Tr.set_e] at h
    by_cases hi : i = 0
    · rw [beq_t hi] at h
      simp only [cond_true, Option.some.injEq] at h
      subst h; subst hi
      by_cases hj : j = 0
      · subst hj; simp [Tr.get_e, Tr.get_n]
      · simp only [Tr.get_e, Tr.get_n, beq_f hj, cond_false, if_neg hj]
        cases Nat.beq (j % 2) 1 <;> rfl
    · rw [beq_f hi] at h; cases h
  | .n v l r, t', i, x, h, j => by
    rw [Tr.set_n] at h
    by_cases hi : i = 0
    · rw [beq_t hi] at h
      simp only [cond_true, Option.some.injEq] at h
      subst h; subst hi
      by_cases hj : j = 0
      · subst hj; simp [Tr.get_e, Tr.get_n]
      · simp only [Tr.get_e, Tr.get_n, beq_f hj, cond_false, if_neg hj]
    · rw [beq_f hi] at h
      simp only [cond_false] at h
      by_cases hp : i % 2 = 1
      · rw [beq_t hp] at h
        simp only [cond_true] at h
        split at h
        · rename_i l' hl
          simp only [Option.some.injEq] at h
          subst h
          have ih := Tr.get_set (d := d) hl
          by_cases hj : j = 0
          · subst hj; rw [if_neg (by omega)]; simp [Tr.get_e, Tr.get_n]
          · by_cases hq : j % 2 = 1
            · simp only [Tr.get_e, Tr.get_n, beq_f hj, cond_false, beq_t hq, cond_true, ih]
              by_cases e : j = i
              · subst e; simp
              · rw [if_neg e, if_neg (by omega)]
            · simp only [Tr.get_e, Tr.get_n, beq_f hj, cond_false, beq_f hq]
              rw [if_neg (by intro e; subst e; exact hq hp)]
        · cases h
      · rw [beq_f hp] at h
        simp only [cond_false] at h
        split at h
        · rename_i r' hr
          simp only [Option.some.injEq] at h
          subst h
          have ih := Tr.get_set (d := d) hr
          by_cases hj : j = 0
          · subst hj; rw [if_neg (by omega)]; simp [Tr.get_e, Tr.get_n]
          · by_cases hq : j % 2 = 1
            · simp only [Tr.get_e, Tr.get_n, beq_f hj, cond_false, beq_t hq, cond_true]
              rw [if_neg (by intro e; subst e; exact hp hq)]
            · simp only [Tr.get_e, Tr.get_n, beq_f hj, cond_false, beq_f hq, ih]
              by_cases e : j = i
              · subst e; simp
              · rw [if_neg e, if_neg (by omega)]
        · cases h

/-- A trie of n empty places. -/
def Tr.mk {α : Type} (x : α) : Nat → Nat → Tr α
  | 0, _ => .e
  | k + 1, m => bif Nat.beq m 0 then .e else .n x (Tr.mk x k (m / 2)) (Tr.mk x k ((m - 1) / 2))
theorem Tr.get_mk {α : Type} (x : α) : ∀ (k m i : Nat), (Tr.mk x k m).get x i = x
  | 0, m, i => by simp [Tr.mk, Tr.get_e]
  | k + 1, m, i => by
    unfold Tr.mk
    cases Nat.beq m 0 with
    | true => simp [Tr.get_e]
    | false =>
      simp only [cond_false, Tr.get_n, Tr.get_mk x k]
      cases Nat.beq i 0 <;> simp

/-! ### states -/
structure HS where
  t : Tr (Option Ch)
  n : Nat
structure ES where
  sl : Tr (Option V)
  h : HS
  df : List Df

def HS.l (h : HS) : List (Option Ch) := (List.range h.n).map (h.t.get none)
def ES.st (nt : Nat) (e : ES) : St := { slots := (List.range nt).filterMap fun i => (e.sl.get none i).map fun v => (i, v), hp := e.h.l, df := e.df }

theorem HS.len (h : HS) : h.l.length = h.n := by simp [HS.l]
theorem HS.get (h : HS) (c : Nat) : h.l[c]? = if c < h.n then some (h.t.get none c) else none := by
  unfold HS.l
  by_cases hc : c < h.n
  · rw [if_pos hc, List.getElem?_map, List.getElem?_range hc]; rfl
  · rw [if_neg hc, List.getElem?_eq_none (by simp; omega)]

theorem look_range {α : Type} (g : Nat → Option α) (i : Nat) : ∀ (k a : Nat), look i ((List.range' a k).filterMap fun i => (g i).map fun v => (i, v)) = if a ≤ i ∧ i < a + k then g i else none
  | 0, a => by simp [look]; omega
  | k + 1, a => by
    have ih := look_range g i k (a + 1)
    rw [List.range'_succ, List.filterMap_cons]
    cases hg : g a with
    | none =>
      simp only [Option.map_none]
      rw [ih]
      by_cases e : i = a
      · subst e; rw [if_neg (by omega), if_pos (by omega), hg]
      · by_cases h : a ≤ i ∧ i < a + (k + 1)
        · rw [if_pos h, if_pos (by omega)]
        · rw [if_neg h, if_neg (by omega)]
    | some v =>
      simp only [Option.map_some, look]
      by_cases e : i = a
      · subst e; rw [beq_t rfl, if_pos (by omega), hg]; rfl
      · rw [beq_f e]
        simp only [cond_false]
        rw [ih]
        by_cases h : a ≤ i ∧ i < a + (k + 1)
        · rw [if_pos h, if_pos (by omega)]
        · rw [if_neg h, if_neg (by omega)]

theorem ES.look (nt : Nat) (e : ES) (i : Nat) : Go.E.look i (e.st nt).slots = if i < nt then e.sl.get none i else none := by
  have := look_range (e.sl.get none) i nt 0
  rw [← List.range_eq_range'] at this
  simpa [ES.st] using this

def getC (h : HS) (c : Nat) : Option Ch := bif Nat.blt c h.n then h.t.get none c else none
theorem getC.of {h : HS} {c : Nat} {ch : Ch} (e : getC h c = some ch) : nth h.l c = some (some ch) := by
  unfold getC at e
  rw [nth_eq, h.get]
  by_cases hc : c < h.n
  · rw [blt_t hc] at e; rw [if_pos hc]; exact congrArg some e
  · rw [blt_f hc] at e; cases e

def fN {α : Type} (n : Nat) (f : Nat → α) : α := match n with
  | 0 => f 0
  | Nat.succ k => f (Nat.succ k)
theorem fN_eq {α : Type} (n : Nat) (f : Nat → α) : fN n f = f n := by cases n <;> rfl
def fI {α : Type} (n : Int) (f : Int → α) : α := match n with
  | .ofNat m => fN m fun m => f (.ofNat m)
  | .negSucc m => fN m fun m => f (.negSucc m)
theorem fI_eq {α : Type} (n : Int) (f : Int → α) : fI n f = f n := by cases n <;> simp [fI, fN_eq]

def setC (h : HS) (c : Nat) (o : Option Ch) : Option HS := bif Nat.blt c h.n then (match h.t.set c o with
  | some t => some ⟨t, h.n⟩
  | none => none) else none
theorem setC.of {h h' : HS} {c : Nat} {o : Option Ch} (e : setC h c o = some h') : c < h.l.length ∧ h'.l = h.l.set c o := by
  unfold setC at e
  by_cases hc : c < h.n
  · rw [blt_t hc] at e
    simp only [cond_true] at e
    split at e
    · rename_i t ht
      simp only [Option.some.injEq] at e
      subst e
      refine ⟨by rw [h.len]; exact hc, ?_⟩
      apply List.ext_getElem?
      intro j
      rw [HS.get, List.getElem?_set, h.len, Tr.get_set ht, h.get]
      by_cases hj : c = j
      · subst hj; simp [hc]
      · have hj' : ¬ j = c := fun e => hj e.symm
        simp only [if_neg hj, if_neg hj']
    · cases e
  · rw [blt_f hc] at e; cases e

def pushC (h : HS) (ch : Ch) : Option HS := match h.t.set h.n (some ch) with
  | some t => fN (h.n + 1) fun n => some ⟨t, n⟩
  | none => none
theorem pushC.of {h h' : HS} {ch : Ch} (e : pushC h ch = some h') : h'.l = h.l ++ [some ch] := by
  unfold pushC at e
  split at e
  · rename_i t ht
    rw [fN_eq] at e
    simp only [Option.some.injEq] at e
    subst e
    apply List.ext_getElem?
    intro j
    rw [HS.get, Tr.get_set ht]
    simp only
    by_cases hj : j < h.n
    · rw [if_pos (by omega), if_neg (by omega), List.getElem?_append_left (by rw [h.len]; exact hj), h.get, if_pos hj]
    · by_cases e : j = h.n
      · subst e
        rw [if_pos (by omega), if_pos rfl, List.getElem?_append_right (by rw [h.len]; omega), h.len]
        simp
      · rw [if_neg (by omega), List.getElem?_eq_none (by rw [List.length_append, h.len]; simp; omega)]
  · cases e

/-! ### lists -/
def dropE {α : Type} : Nat → List α → Option (List α)
  | 0, l => some l
  | n + 1, _ :: l => dropE n l
  | _ + 1, [] => none
theorem dropE.of {α : Type} : ∀ {n : Nat} {l r : List α} {k : List α → Prop}, dropE n l = some r → k r → dropK n l k
  | 0, l, r, k, h, hk => by simp only [dropE, Option.some.injEq] at h; subst h; simpa only [dropK] using hk
  | n + 1, _ :: l, r, k, h, hk => by simp only [dropE] at h; simp only [dropK]; exact dropE.of h hk
  | _ + 1, [], r, k, h, hk => by simp only [dropE] at h; cases h
def takeE {α : Type} : Nat → List α → Option (List α)
  | 0, _ => some []
  | n + 1, x :: l => match takeE n l with
    | some r => some (x :: r)
    | none => none
  | _ + 1, [] => none
theorem takeE.of {α : Type} : ∀ {n : Nat} {l r : List α} {k : List α → Prop}, takeE n l = some r → k r → takeK n l k
  | 0, l, r, k, h, hk => by simp only [takeE, Option.some.injEq] at h; subst h; cases l <;> simpa only [takeK] using hk
  | n + 1, x :: l, r, k, h, hk => by
    simp only [takeE] at h
    split at h
    · rename_i q hq
      simp only [Option.some.injEq] at h; subst h
      simp only [takeK]; exact takeE.of (k := fun r => k (x :: r)) hq hk
    · cases h
  | _ + 1, [], r, k, h, hk => by simp only [takeE] at h; cases h
def mapE {α β : Type} (f : α → β) : List α → List β
  | [] => []
  | x :: l => f x :: mapE f l
theorem mapE_eq {α β : Type} (f : α → β) : ∀ (l : List α), mapE f l = l.map f
  | [] => rfl
  | x :: l => by simp [mapE, mapE_eq f l]
theorem mapE.of {α β : Type} {f : α → β} : ∀ {l : List α} {k : List β → Prop}, k (mapE f l) → mapK f l k
  | [], k, h => h
  | x :: l, k, h => by simp only [mapK]; exact mapE.of (k := fun r => k (f x :: r)) h
def setE {α : Type} : Nat → List α → List α → Option (List α)
  | 0, [], l => some l
  | 0, v :: vs, _ :: l => match setE 0 vs l with
    | some r => some (v :: r)
    | none => none
  | n + 1, vs, x :: l => match setE n vs l with
    | some r => some (x :: r)
    | none => none
  | 0, _ :: _, [] => none
  | _ + 1, _, [] => none
theorem setE.of {α : Type} : ∀ {n : Nat} {vs l r : List α} {k : List α → Prop}, setE n vs l = some r → k r → setK n vs l k
  | 0, [], l, r, k, h, hk => by simp only [setE, Option.some.injEq] at h; subst h; simpa only [setK] using hk
  | 0, v :: vs, x :: l, r, k, h, hk => by
    simp only [setE] at h
    split at h
    · rename_i q hq
      simp only [Option.some.injEq] at h; subst h
      simp only [setK]; exact setE.of (k := fun r => k (v :: r)) hq hk
    · cases h
  | n + 1, vs, x :: l, r, k, h, hk => by
    have h' : (match setE n vs l with
      | some r => some (x :: r)
      | none => none) = some r := by cases vs <;> simpa only [setE] using h
    have g : setK n vs l (fun r => k (x :: r)) → setK (n + 1) vs (x :: l) k := by intro g; cases vs <;> simpa only [setK] using g
    refine g ?_
    split at h'
    · rename_i q hq
      simp only [Option.some.injEq] at h'; subst h'
      exact setE.of (k := fun r => k (x :: r)) hq hk
    · cases h'
  | 0, _ :: _, [], r, k, h, hk => by simp only [setE] at h; cases h
  | n + 1, vs, [], r, k, h, hk => by cases vs <;> (simp only [setE] at h; cases h)

theorem lenK.mk {α : Type} : ∀ {l : List α} {k : Nat → Prop}, k l.length → lenK l k
  | [], _, h => h
  | _ :: l, k, h => lenK.mk (l := l) (k := fun n => k (n + 1)) h
theorem snocK.mk {α : Type} : ∀ {l : List α} {x : α} {k : List α → Prop}, k (l ++ [x]) → snocK l x k
  | [], _, _, h => h
  | y :: l, _, k, h => snocK.mk (l := l) (k := fun r => k (y :: r)) h
theorem setK.mk {α : Type} {k : List α → Prop} : ∀ {c : Nat} {x : α} {l : List α}, c < l.length → k (l.set c x) → setK c [x] l k := by
  intro c
  induction c generalizing k with
  | zero =>
    intro x l hl h
    cases l with
    | nil => simp at hl
    | cons y l => simp only [setK]; simpa using h
  | succ c ih =>
    intro x l hl h
    cases l with
    | nil => simp at hl
    | cons y l =>
      simp only [setK]
      exact ih (k := fun r => k (y :: r)) (by simpa using hl) (by simpa using h)

section
variable {E : Env} {nt : Nat} {es es' : ES}

theorem newC.of {ch : Ch} {h' : HS} {k : Nat → St → Prop} (e : pushC es.h ch = some h') (hk : k es.h.n (({ es with h := h' } : ES).st nt)) : newC (es.st nt) ch k := by
  unfold newC
  refine lenK.mk (snocK.mk ?_)
  have h1 : (es.st nt).hp.length = es.h.n := es.h.len
  have h2 : (es.st nt).hp ++ [some ch] = h'.l := (pushC.of e).symm
  rw [h1, h2]
  exact hk

/-! ### operands -/
def evE (E : Env) (nt : Nat) (es : ES) (x : Operand) : Option V := match x with
  | .tmp t => bif Nat.blt t nt then es.sl.get none t else none
  | .const v => bif cellVal v then some (ofVal v) else none
  | .global g => look g E.G
  | .func f => some (.fn f [] [])
theorem evE.of {x : Operand} {v : V} {k : V → Prop} (h : evE E nt es x = some v) (hk : k v) : evK E (es.st nt) x k := by
  cases x with
  | tmp t =>
    simp only [evE] at h
    simp only [evK]
    rw [es.look nt t]
    by_cases ht : t < nt
    · rw [blt_t ht] at h
      simp only [cond_true] at h
      rw [if_pos ht, h]
      exact hk
    · rw [blt_f ht] at h; cases h
  | const y =>
    simp only [evE] at h
    simp only [evK]
    cases hc : cellVal y with
    | true => rw [hc] at h; simp only [cond_true, Option.some.injEq] at h; subst h; exact hk
    | false => rw [hc] at h; cases h
  | global g => simp only [evE] at h; simp only [evK]; rw [h]; exact hk
  | func f => simp only [evE, Option.some.injEq] at h; subst h; exact hk

def evsE (E : Env) (nt : Nat) (es : ES) : List Operand → Option (List V)
  | [] => some []
  | x :: l => match evE E nt es x with
    | some v => match evsE E nt es l with
      | some r => some (v :: r)
      | none => none
    | none => none
theorem evsE.of : ∀ {l : List Operand} {vs : List V} {k : List V → Prop}, evsE E nt es l = some vs → k vs → evsK E (es.st nt) l k
  | [], _, k, h, hk => by simp only [evsE, Option.some.injEq] at h; subst h; exact hk
  | x :: l, _, k, h, hk => by
    simp only [evsE] at h
    split at h
    · rename_i v hv
      split at h
      · rename_i r hr
        simp only [Option.some.injEq] at h; subst h
        simp only [evsK]
        exact evE.of hv (evsE.of (k := fun r => k (v :: r)) hr hk)
      · cases h
    · cases h

/-! ### numbers -/
def rI (k : IntKind) (n : Int) : Option V := fI n fun n => some (.d (.v (.int k n)))
theorem rI_eq (k : IntKind) (n : Int) : rI k n = some (V.int k n) := fI_eq _ _
def rB (b : Bool) : Option V := match b with
  | true => some (.d (.v (.bool true)))
  | false => some (.d (.v (.bool false)))
theorem rB_eq (b : Bool) : rB b = some (V.bool b) := by cases b <;> rfl

def modOf : IntKind → Nat
  | .i8 | .u8 => 256
  | .i16 | .u16 => 65536
  | .i32 | .u32 => 4294967296
  | .i64 | .u64 => 18446744073709551616
def topOf : IntKind → Nat
  | .i8 => 128
  | .u8 => 256
  | .i16 => 32768
  | .u16 => 65536
  | .i32 => 2147483648
  | .u32 => 4294967296
  | .i64 => 9223372036854775808
  | .u64 => 18446744073709551616
/-- Wraps, spelt for the kernel. -/
def wrapE (k : IntKind) (n : Int) : Int := match n with
  | .ofNat m => bif Nat.blt m (topOf k) then .ofNat m else
      (fun r => bif Nat.blt r (topOf k) then Int.ofNat r else Int.negOfNat (modOf k - r)) (m % modOf k)
  | .negSucc m => (fun r => bif Nat.blt r (topOf k) then Int.ofNat r else Int.negOfNat (modOf k - r)) (modOf k - 1 - m % modOf k)
theorem wrapE_eq (k : IntKind) (n : Int) : wrapE k n = k.wrap n := by
  cases n with
  | ofNat m =>
    unfold wrapE
    simp only
    by_cases h1 : m < topOf k
    · rw [blt_t h1]
      cases k <;> simp only [topOf, cond_true, IntKind.wrap, IntKind.bits, IntKind.signed, Int.ofNat_eq_natCast] at * <;> simp <;> omega
    · rw [blt_f h1]
      simp only [cond_false]
      by_cases h2 : m % modOf k < topOf k
      · rw [blt_t h2]
        cases k <;> simp only [topOf, modOf, cond_true, IntKind.wrap, IntKind.bits, IntKind.signed, Int.ofNat_eq_natCast] at * <;> simp <;> omega
      · rw [blt_f h2]
        cases k <;> simp only [topOf, modOf, cond_false, IntKind.wrap, IntKind.bits, IntKind.signed, Int.ofNat_eq_natCast, Int.negOfNat_eq] at * <;> simp <;> omega
  | negSucc m =>
    unfold wrapE
    simp only
    by_cases h2 : modOf k - 1 - m % modOf k < topOf k
    · rw [blt_t h2]
      cases k <;> simp only [topOf, modOf, cond_true, IntKind.wrap, IntKind.bits, IntKind.signed, Int.ofNat_eq_natCast, Int.negSucc_eq] at * <;> simp <;> omega
    · rw [blt_f h2]
      cases k <;> simp only [topOf, modOf, cond_false, IntKind.wrap, IntKind.bits, IntKind.signed, Int.ofNat_eq_natCast, Int.negOfNat_eq, Int.negSucc_eq] at * <;> simp <;> omega

def ikEq : IntKind → IntKind → Bool
  | .i8, .i8 | .i16, .i16 | .i32, .i32 | .i64, .i64 | .u8, .u8 | .u16, .u16 | .u32, .u32 | .u64, .u64 => true
  | _, _ => false
theorem ikEq.of {a b : IntKind} {p : Prop} (h : ikEq a b = true) (hp : p) : sameK a b p := by
  cases a <;> cases b <;> first | exact hp | exact absurd h (by decide)

/-- Bit by bit. -/
def bitE (a : IntKind) (i j : Int) (f : Nat → Nat → Nat) (g : Int) : Int := match i, j with
  | .ofNat x, .ofNat y => bif Nat.blt x (modOf a) && Nat.blt y (modOf a) then wrapE a (.ofNat (f x y)) else g
  | _, _ => g
theorem modOf_eq (a : IntKind) : modOf a = 2 ^ a.bits := by cases a <;> rfl
theorem ofInt_nat {a : IntKind} {x : Nat} (h : x < modOf a) : (BitVec.ofInt a.bits (Int.ofNat x)).toNat = x := by
  rw [modOf_eq] at h
  simp only [Int.ofNat_eq_natCast, BitVec.ofInt_natCast, BitVec.toNat_ofNat]
  exact Nat.mod_eq_of_lt h
theorem bitE_and (a : IntKind) (i j : Int) : bitE a i j Nat.land (a.wrap (BitVec.ofInt a.bits i &&& BitVec.ofInt a.bits j).toNat) = a.wrap (BitVec.ofInt a.bits i &&& BitVec.ofInt a.bits j).toNat := by
  unfold bitE
  split
  · rename_i x y
    by_cases h : x < modOf a ∧ y < modOf a
    · rw [blt_t h.1, blt_t h.2]
      simp only [Bool.and_self, cond_true, wrapE_eq, BitVec.toNat_and, ofInt_nat h.1, ofInt_nat h.2]
      rfl
    · have : (Nat.blt x (modOf a) && Nat.blt y (modOf a)) = false := by
        cases hq : (Nat.blt x (modOf a) && Nat.blt y (modOf a)) with
        | false => rfl
        | true => obtain ⟨h1, h2⟩ := Bool.and_eq_true_iff.1 hq; exact absurd ⟨by simpa [Nat.blt_eq] using h1, by simpa [Nat.blt_eq] using h2⟩ h
      rw [this]; rfl
  · rfl
theorem bitE_or (a : IntKind) (i j : Int) : bitE a i j Nat.lor (a.wrap (BitVec.ofInt a.bits i ||| BitVec.ofInt a.bits j).toNat) = a.wrap (BitVec.ofInt a.bits i ||| BitVec.ofInt a.bits j).toNat := by
  unfold bitE
  split
  · rename_i x y
    by_cases h : x < modOf a ∧ y < modOf a
    · rw [blt_t h.1, blt_t h.2]
      simp only [Bool.and_self, cond_true, wrapE_eq, BitVec.toNat_or, ofInt_nat h.1, ofInt_nat h.2]
      rfl
    · have : (Nat.blt x (modOf a) && Nat.blt y (modOf a)) = false := by
        cases hq : (Nat.blt x (modOf a) && Nat.blt y (modOf a)) with
        | false => rfl
        | true => obtain ⟨h1, h2⟩ := Bool.and_eq_true_iff.1 hq; exact absurd ⟨by simpa [Nat.blt_eq] using h1, by simpa [Nat.blt_eq] using h2⟩ h
      rw [this]; rfl
  · rfl
theorem bitE_xor (a : IntKind) (i j : Int) : bitE a i j Nat.xor (a.wrap (BitVec.ofInt a.bits i ^^^ BitVec.ofInt a.bits j).toNat) = a.wrap (BitVec.ofInt a.bits i ^^^ BitVec.ofInt a.bits j).toNat := by
  unfold bitE
  split
  · rename_i x y
    by_cases h : x < modOf a ∧ y < modOf a
    · rw [blt_t h.1, blt_t h.2]
      simp only [Bool.and_self, cond_true, wrapE_eq, BitVec.toNat_xor, ofInt_nat h.1, ofInt_nat h.2]
      rfl
    · have : (Nat.blt x (modOf a) && Nat.blt y (modOf a)) = false := by
        cases hq : (Nat.blt x (modOf a) && Nat.blt y (modOf a)) with
        | false => rfl
        | true => obtain ⟨h1, h2⟩ := Bool.and_eq_true_iff.1 hq; exact absurd ⟨by simpa [Nat.blt_eq] using h1, by simpa [Nat.blt_eq] using h2⟩ h
      rw [this]; rfl
  · rfl

def iAdd (a : IntKind) (i j : Int) : Option V := rI a (wrapE a (Int.add i j))
def iSub (a : IntKind) (i j : Int) : Option V := rI a (wrapE a (Int.sub i j))
def iMul (a : IntKind) (i j : Int) : Option V := rI a (wrapE a (Int.mul i j))
def isZ (j : Int) : Bool := match j with
  | .ofNat n => Nat.beq n 0
  | .negSucc _ => false
theorem isZ_eq (j : Int) : isZ j = decide (j = 0) := by
  cases j with
  | ofNat n => cases n with
    | zero => rfl
    | succ n => simp only [isZ, beq_f (show n + 1 ≠ 0 by omega)]; symm; simp; omega
  | negSucc n => simp [isZ]
def iQuo (a : IntKind) (i j : Int) : Option V := bif isZ j then none else rI a (wrapE a (i.tdiv j))
def iRem (a : IntKind) (i j : Int) : Option V := bif isZ j then none else rI a (i.tmod j)
def iAnd (a : IntKind) (i j : Int) : Option V := rI a (bitE a i j Nat.land (a.wrap (BitVec.ofInt a.bits i &&& BitVec.ofInt a.bits j).toNat))
def iOr (a : IntKind) (i j : Int) : Option V := rI a (bitE a i j Nat.lor (a.wrap (BitVec.ofInt a.bits i ||| BitVec.ofInt a.bits j).toNat))
def iXor (a : IntKind) (i j : Int) : Option V := rI a (bitE a i j Nat.xor (a.wrap (BitVec.ofInt a.bits i ^^^ BitVec.ofInt a.bits j).toNat))
def intEqB (i j : Int) : Bool := match i, j with
  | .ofNat m, .ofNat n => Nat.beq m n
  | .negSucc m, .negSucc n => Nat.beq m n
  | _, _ => false
theorem nbeq_eq (m n : Nat) : Nat.beq m n = decide (m = n) := by
  by_cases h : m = n
  · rw [beq_t h]; simp [h]
  · rw [beq_f h]; simp [h]
theorem intEqB_eq (i j : Int) : intEqB i j = decide (i = j) := by
  cases i <;> cases j <;> simp [intEqB, nbeq_eq] <;> omega
def intLeB (i j : Int) : Bool := match i, j with
  | .ofNat m, .ofNat n => Nat.ble m n
  | .negSucc m, .negSucc n => Nat.ble n m
  | .negSucc _, .ofNat _ => true
  | .ofNat _, .negSucc _ => false
theorem nble_eq (m n : Nat) : Nat.ble m n = decide (m ≤ n) := by
  by_cases h : m ≤ n
  · rw [Nat.ble_eq_true_of_le h]; simp [h]
  · cases hb : Nat.ble m n with
    | true => exact absurd (Nat.le_of_ble_eq_true hb) h
    | false => simp [h]
theorem intLeB_eq (i j : Int) : intLeB i j = decide (i ≤ j) := by
  cases i <;> cases j <;> simp [intLeB, nble_eq, Int.negSucc_eq] <;> omega
def iEq (i j : Int) : Option V := rB (intEqB i j)
def iNe (i j : Int) : Option V := rB (not (intEqB i j))
def iLt (i j : Int) : Option V := rB (not (intLeB j i))
def iLe (i j : Int) : Option V := rB (intLeB i j)
def shE (i j : Int) (a : IntKind) : Nat := Nat.min j.toNat a.bits
def iShl (a : IntKind) (i j : Int) : Option V := bif intLeB 0 j then rI a (wrapE a (Int.mul i (Int.ofNat (Nat.pow 2 (min j.toNat a.bits))))) else none
def iShr (a : IntKind) (i j : Int) : Option V := bif intLeB 0 j then rI a (i.fdiv (Int.ofNat (Nat.pow 2 (min j.toNat a.bits)))) else none
def intOp (op : BinOp) (a : IntKind) (i j : Int) : Option V := match op with
  | .add => iAdd a i j
  | .sub => iSub a i j
  | .mul => iMul a i j
  | .quo => iQuo a i j
  | .rem => iRem a i j
  | .and => iAnd a i j
  | .or => iOr a i j
  | .xor => iXor a i j
  | .eql => iEq i j
  | .neq => iNe i j
  | .lss => iLt i j
  | .leq => iLe i j
  | .gtr => iLt j i
  | .geq => iLe j i
  | _ => none
def intBinE (op : BinOp) (a : IntKind) (i : Int) (b : IntKind) (j : Int) : Option V := match op with
  | .shl => iShl a i j
  | .shr => iShr a i j
  | op => bif ikEq a b then intOp op a i j else none

theorem pow2 (n : Nat) : Int.ofNat (2 ^ n) = (2 : Int) ^ n := by simp

theorem ilt_eq (i j : Int) : (!(decide (j ≤ i))) = decide (i < j) := by
  by_cases h : i < j <;> simp [h] <;> omega
theorem intBinE.of {op : BinOp} {a : IntKind} {i : Int} {b : IntKind} {j : Int} {v : V} {k : V → Prop} (h : intBinE op a i b j = some v) (hk : k v) : intBin op a i b j k := by
  have hadd : ∀ i j : Int, Int.add i j = i + j := fun _ _ => rfl
  have hsub : ∀ i j : Int, Int.sub i j = i - j := fun _ _ => rfl
  have hmul : ∀ i j : Int, Int.mul i j = i * j := fun _ _ => rfl
  have hpow : ∀ n : Nat, Int.ofNat (Nat.pow 2 n) = (2 : Int) ^ n := fun n => pow2 n
  cases op <;> simp only [intBinE] at h
  all_goals try (cases hq : ikEq a b <;> rw [hq] at h <;> simp only [cond_true, cond_false, intOp] at h)
  all_goals try (cases h; done)
  all_goals simp only [iAdd, iSub, iMul, iQuo, iRem, iAnd, iOr, iXor, iEq, iNe, iLt, iLe, iShl, iShr, isZ_eq, intEqB_eq, intLeB_eq, hadd, hsub, hmul, hpow, rI_eq, rB_eq, wrapE_eq, bitE_and, bitE_or, bitE_xor] at h
  all_goals simp only [intBin]
  all_goals first
    | (simp only [Option.some.injEq] at h; subst h; exact ikEq.of hq hk)
    | (simp only [Option.some.injEq] at h; subst h; refine ikEq.of hq ?_; first | exact hk | simpa [bne, beq_eq_decide] using hk | (rw [ilt_eq] at hk; exact hk))
    | (cases hj : decide (0 ≤ j) <;> rw [hj] at h <;> simp only [cond_true, cond_false] at h <;> first | (cases h; done) | (simp only [Option.some.injEq] at h; subst h; exact ⟨by simpa using hj, hk⟩))
    | (cases hj : decide (j = 0) <;> rw [hj] at h <;> simp only [cond_true, cond_false] at h <;> first | (cases h; done) | (simp only [Option.some.injEq] at h; subst h; exact ikEq.of hq ⟨by simpa using hj, hk⟩))

end
end
end Go.E
