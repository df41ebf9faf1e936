/-
  THE ENGINE, PART 2: the state that a call is in (St), what each operation asks and gives (the words that end in K or VC), and that the machine does just that.
-/
import Derived.Test.YtnhkaggpknfeeaaGreatDoorEng1
namespace Go.E
open Go

/-- What is known of a type: its description, how many cells, how many bytes, its zero's cells. -/
structure TI where
  desc : TypeDesc
  size : Nat
  bytes : Nat
  zero : List Value

def isAggD : TypeDesc → Bool
  | .struct _ | .array _ _ => true
  | _ => false

/-- A type's zero out of its cells. -/
def zeroOf (d : TypeDesc) (z : List Value) : Value := match isAggD d with
  | true => .agg z.toArray
  | false => z.headD undef

structure TOk (P : Program) (t : TypeId) (ti : TI) : Prop where
  und : P.underlying t = some ti.desc
  zer : ∃ i, P.info? t = some i ∧ i.zero = some (zeroOf ti.desc ti.zero)
  inf : ∃ i z, P.info? t = some i ∧ i.size = ti.size ∧ i.bytes = ti.bytes ∧ i.zero = some z ∧ z.cells.toList = ti.zero ∧ ti.zero.all cellVal = true ∧ ti.zero.length = ti.size

/-- The program, its types, its variables as data. -/
structure Env where
  P : Program
  T : TypeId → Option TI
  G : List (Nat × V)

structure Env.Ok (E : Env) : Prop where
  T : ∀ t ti, E.T t = some ti → TOk E.P t ti

/-- What is put off: a call (function, arguments, captured); the calls of a range over a function. -/
inductive Df where
  | call (f : FuncId) (us vs : List V)
  | mark (c : Nat)

/-- A state: slots, chunks, what is put off. -/
structure St where
  slots : List (Nat × V)
  hp : List (Option Ch)
  df : List Df := []

/-- What was put off. -/
def RDf (ρ : Nat → Bk) (N : Nat) (S : Nat → Prop) (w : World) : List Df → List Deferred → Prop
  | [], ds => ds = []
  | .call f us vs :: r, ds => ∃ xs ys ds', ds = { target := .fn (.func f) ys.toArray, args := xs.toArray } :: ds' ∧ RVs ρ N S w us xs ∧ RVs ρ N S w vs ys ∧ RDf ρ N S w r ds'
  | .mark c :: r, ds => ∃ ds', ds = { target := .collected (ρ c).b, args := #[] } :: ds' ∧ c < N ∧ RDf ρ N S w r ds'

theorem RDf.mono {ρ ρ' : Nat → Bk} {N N' : Nat} {S S' : Nat → Prop} {w w' : World} (hN : N ≤ N') (hρ : ∀ c, c < N → ρ' c = ρ c) (hS : ∀ b, S b → S' b) (hw : Same S w w') :
    ∀ {df : List Df} {ds : List Deferred}, RDf ρ N S w df ds → RDf ρ' N' S' w' df ds
  | [], _, h => h
  | .call _ _ _ :: _, _, ⟨xs, ys, ds', h1, h2, h3, h4⟩ => ⟨xs, ys, ds', h1, h2.mono hN hρ hS hw, h3.mono hN hρ hS hw, RDf.mono hN hρ hS hw h4⟩
  | .mark _ :: _, _, ⟨ds', h1, h2, h3⟩ => ⟨ds', by rw [hρ _ h2]; exact h1, Nat.lt_of_lt_of_le h2 hN, RDf.mono hN hρ hS hw h3⟩

def nth {α : Type} : List α → Nat → Option α
  | [], _ => none
  | x :: _, 0 => some x
  | _ :: l, n + 1 => nth l n

theorem nth_eq {α : Type} (l : List α) (n : Nat) : nth l n = l[n]? := by
  induction l generalizing n with
  | nil => simp [nth]
  | cons x l ih => cases n <;> simp [nth, ih]

def ofVal : Value → V
  | .slice none 0 0 => .d (.sl (some true) 0 1 fun _ => [])
  | v => .d (.v v)

theorem RV.ofVal {ρ N S w} {x : Value} (h : cellVal x = true) : RV ρ N S w (ofVal x) x := by
  unfold Go.E.ofVal
  split
  · exact .d (.nil (by simp))
  · exact .d (.v h)

/-- What a state means. w0, S0, W0, m, ρ0: the world, what may be read, which blocks may be written, the chunks as the call began. -/
structure Inv (E : Env) (nt : Nat) (w0 : World) (S0 W0 : Nat → Prop) (m : Nat) (ρ0 : Nat → Bk) (ρ : Nat → Bk) (S : Nat → Prop) (w : World) (s : St) (a : Act) : Prop where
  slots : ∀ i v, look i s.slots = some v → ∃ x, a.tmps[i]? = some x ∧ RV ρ s.hp.length S w v x
  heap : Heap ρ S w s.hp
  hist : Hist w0 S0 W0 S w
  par : ∀ c, c < m → ρ c = ρ0 c
  le : m ≤ s.hp.length
  keep : ∀ b, S0 b → S b
  new : ∀ c ch, s.hp[c]? = some (some ch) → w0.heap.size ≤ (ρ c).b ∨ W0 (ρ c).b
  glob : ∀ g ds, look g E.G = some ds → RV ρ 0 S w ds (.pointer (some ⟨g, 0, none⟩))
  defers : RDf ρ s.hp.length S w s.df a.defers
  nt : a.tmps.size = nt

section
variable {E : Env} {nt : Nat} {w0 : World} {S0 W0 : Nat → Prop} {m : Nat} {ρ0 ρ : Nat → Bk} {S : Nat → Prop} {w : World} {s : St} {a : Act}

/-- An operand's value. -/
def evK (E : Env) (s : St) (x : Operand) (k : V → Prop) : Prop :=
  match x with
  | .tmp t => match look t s.slots with
    | some v => k v
    | none => False
  | .const v => match cellVal v with
    | true => k (ofVal v)
    | false => False
  | .global g => match look g E.G with
    | some ds => k ds
    | none => False
  | .func f => k (.fn f [] [])

theorem evK.out {x : Operand} {k : V → Prop} (h : evK E s x k) (inv : Inv E nt w0 S0 W0 m ρ0 ρ S w s a) : ∃ v, RV ρ s.hp.length S w v (a.eval x) ∧ k v := by
  cases x with
  | tmp t =>
    simp only [evK] at h
    split at h
    · rename_i v hv
      obtain ⟨x, hx, hr⟩ := inv.slots _ _ hv
      exact ⟨v, by simpa [Act.eval, Array.getD_eq_getD_getElem?, hx] using hr, h⟩
    · exact h.elim
  | const v =>
    simp only [evK] at h
    split at h
    · rename_i hv; exact ⟨_, .ofVal hv, h⟩
    · exact h.elim
  | global g =>
    simp only [evK] at h
    split at h
    · rename_i ds hg
      exact ⟨_, (inv.glob _ _ hg).mono (Nat.zero_le _) (fun _ h => absurd h (by omega)) (fun _ h => h) (fun _ _ => rfl), h⟩
    · exact h.elim
  | func f =>
    refine ⟨_, ?_, h⟩
    exact .fn (xs := []) (ys := []) rfl (fun k a b h => by simp at h) rfl (fun k a b h => by simp at h)

/-- The end of an operation that gives a value. -/
def Gives (E : Env) (nt : Nat) (w0 : World) (S0 W0 : Nat → Prop) (m : Nat) (ρ0 : Nat → Bk) (a : Act) (dst : Option Tmp) (k : V → St → Prop) (a' : Act) (w' : World) : Prop :=
  ∃ x v s' ρ' S', a' = a.put dst x ∧ Inv E nt w0 S0 W0 m ρ0 ρ' S' w' s' a ∧ RV ρ' s'.hp.length S' w' v x ∧ k v s'

theorem wp_val {o : Oper} {x : Value} {w' : World} {K : Act → World → Prop} {Q : Exit → Act → World → Prop}
    (h : (execOp a.eval o).run E.P w = .ok (.value x) w') (hK : K (a.put o.dst x) w') : o.wp E.P a w K Q := by
  unfold Oper.wp; rw [h]; exact hK

theorem wp_skp {o : Oper} {w' : World} {K : Act → World → Prop} {Q : Exit → Act → World → Prop}
    (h : (execOp a.eval o).run E.P w = .ok .skip w') (hK : K (a.put o.dst undef) w') : o.wp E.P a w K Q := by
  unfold Oper.wp; rw [h]; exact hK

theorem gives_same {dst : Option Tmp} {k : V → St → Prop} {x : Value} {v : V} (inv : Inv E nt w0 S0 W0 m ρ0 ρ S w s a) (hr : RV ρ s.hp.length S w v x) (hk : k v s) :
    Gives E nt w0 S0 W0 m ρ0 a dst k (a.put dst x) w := ⟨x, v, s, ρ, S, rfl, inv, hr, hk⟩

/-! ### a value is put into its slot -/
def St.put (s : St) (d : Nat) (v : V) : St := { s with slots := (d, v) :: s.slots }

theorem Inv.put {d : Nat} {v : V} {x : Value} (inv : Inv E nt w0 S0 W0 m ρ0 ρ S w s a) (hd : d < nt) (hr : RV ρ s.hp.length S w v x) :
    Inv E nt w0 S0 W0 m ρ0 ρ S w (s.put d v) (a.put (some d) x) := by
  refine { inv with slots := ?_, defers := inv.defers, nt := by simp [Act.put, inv.nt] }
  intro i u hi
  simp only [St.put, look] at hi
  cases hb : Nat.beq i d with
  | true =>
    rw [hb] at hi
    have e : i = d := Nat.eq_of_beq_eq_true hb
    subst e
    simp at hi; subst hi
    exact ⟨x, by simp [Act.put, inv.nt, hd], hr⟩
  | false =>
    rw [hb] at hi
    have e : i ≠ d := Nat.ne_of_beq_eq_false hb
    obtain ⟨y, hy, hyr⟩ := inv.slots i u hi
    exact ⟨y, by simp only [Act.put]; rw [Array.getElem?_setIfInBounds_ne (by omega)]; exact hy, hyr⟩

/-! ### bools -/
/-- A way parts at a bool. -/
def bsel (t : Bool) (p q : Prop) : Prop := match t with
  | true => p
  | false => q
theorem bsel_intro {t : Bool} {p q : Prop} (hp : t = true → p) (hq : t = false → q) : bsel t p q := by cases t <;> simp_all [bsel]
theorem bsel.out {t : Bool} {p q : Prop} (h : bsel t p q) : (t = true ∧ p) ∨ (t = false ∧ q) := by cases t <;> simp_all [bsel]

def vbool (v : V) (k : Bool → Prop) : Prop := match v with
  | .d (.v (.bool t)) => k t
  | _ => False
theorem vbool.out {v : V} {k : Bool → Prop} {N x} (h : vbool v k) (hr : RV ρ N S w v x) : ∃ t, x = .bool t ∧ k t := by
  unfold vbool at h
  split at h
  · cases hr with | d hr => cases hr with | v _ => exact ⟨_, rfl, h⟩
  · exact h.elim

/-! ### lists, by continuation -/
def dropK {α : Type} : Nat → List α → (List α → Prop) → Prop
  | 0, l, k => k l
  | n + 1, _ :: l, k => dropK n l k
  | _ + 1, [], _ => False
theorem dropK.out {α : Type} : ∀ {n : Nat} {l : List α} {k : List α → Prop}, dropK n l k → n ≤ l.length ∧ k (l.drop n)
  | 0, l, k, h => ⟨by omega, h⟩
  | n + 1, _ :: l, k, h => by
    have h' : dropK n l k := by simpa only [dropK] using h
    obtain ⟨a, b⟩ := dropK.out h'
    exact ⟨by simp; omega, by simpa using b⟩
def takeK {α : Type} : Nat → List α → (List α → Prop) → Prop
  | 0, _, k => k []
  | n + 1, x :: l, k => takeK n l fun r => k (x :: r)
  | _ + 1, [], _ => False
theorem takeK.out {α : Type} : ∀ {n : Nat} {l : List α} {k : List α → Prop}, takeK n l k → n ≤ l.length ∧ k (l.take n)
  | 0, l, k, h => ⟨by omega, by cases l <;> simpa [takeK] using h⟩
  | n + 1, x :: l, k, h => by
    have h' : takeK n l (fun r => k (x :: r)) := by simpa only [takeK] using h
    obtain ⟨a, b⟩ := takeK.out h'
    exact ⟨by simp; omega, by simpa using b⟩
def mapK {α β : Type} (f : α → β) : List α → (List β → Prop) → Prop
  | [], k => k []
  | x :: l, k => mapK f l fun r => k (f x :: r)
theorem mapK.out {α β : Type} {f : α → β} : ∀ {l : List α} {k : List β → Prop}, mapK f l k → k (l.map f)
  | [], k, h => h
  | x :: l, k, h => by
    have h' : mapK f l (fun r => k (f x :: r)) := by simpa only [mapK] using h
    simpa using mapK.out h'
/-- From place n on the list's elements are others. -/
def setK {α : Type} : Nat → List α → List α → (List α → Prop) → Prop
  | 0, [], l, k => k l
  | 0, v :: vs, _ :: l, k => setK 0 vs l fun r => k (v :: r)
  | n + 1, vs, x :: l, k => setK n vs l fun r => k (x :: r)
  | 0, _ :: _, [], _ => False
  | _ + 1, _, [], _ => False
def setL {α : Type} (n : Nat) (vs l : List α) : List α := l.take n ++ vs ++ l.drop (n + vs.length)
theorem setK.out {α : Type} : ∀ {n : Nat} {vs l : List α} {k : List α → Prop}, setK n vs l k → n + vs.length ≤ l.length ∧ k (setL n vs l)
  | 0, [], l, k, h => ⟨by simp, by simpa [setL, setK] using h⟩
  | 0, v :: vs, x :: l, k, h => by
    have h' : setK 0 vs l (fun r => k (v :: r)) := by simpa only [setK] using h
    obtain ⟨a, b⟩ := setK.out h'
    refine ⟨by simp at *; omega, ?_⟩
    simpa [setL, Nat.add_comm] using b
  | n + 1, vs, x :: l, k, h => by
    have h' : setK n vs l (fun r => k (x :: r)) := by cases vs <;> simpa only [setK] using h
    obtain ⟨a, b⟩ := setK.out h'
    refine ⟨by simp at *; omega, ?_⟩
    have e : n + 1 + vs.length = (n + vs.length) + 1 := by omega
    simpa [setL, e] using b
  | 0, _ :: _, [], _, h => by simp only [setK] at h
  | n + 1, vs, [], _, h => by cases vs <;> simp only [setK] at h

end
end Go.E
