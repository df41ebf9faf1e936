/-
  THE ENGINE, PART 1: what data is (D), what a slot holds (V), how they read in a world (RD, RV), chunks that a call owns (Ch), and that all this is kept while memory grows.
-/
import Derived.WalkKit
namespace Go.E
open Go

/-- Data that nobody writes any more: a scalar, or a slice whose n elements have sz cells each (isNil: is it nil? none: it isn't said). -/
inductive D where
  | v (x : Value)
  | sl (isNil : Option Bool) (n sz : Nat) (f : Nat → List D)

/-- What a slot holds. Chunks (blocks that the call owns) go by number. A slice over a chunk of rows (ms) has a known capacity (some), or reaches to the chunk's end (none). z: a slice of no capacity. mp: a map. yl: the yield of a range over a function. -/
inductive V where
  | d (x : D)
  | pp (ds : List D)
  | pr (n sz : Nat) (f : Nat → List D)
  | loc (c off : Nat)
  | re (c i k sz : Nat)
  | ms (c off n : Nat) (q : Option Nat) (sz : Nat)
  | z (isNil : Option Bool)
  | mp (c : Nat)
  | yl (c : Nat)
  | agg (vs : List V)
  | fn (f : FuncId) (first caps : List V)
  | tup (vs : List V)

/-! ### tries -/
inductive Tr (α : Type) where
  | e
  | n (v : α) (l r : Tr α)

noncomputable def Tr.get {α : Type} (d : α) (t : Tr α) : Nat → α :=
  Tr.rec (motive := fun _ => Nat → α) (fun _ => d) (fun v _ _ gl gr i => cond (Nat.beq i 0) v (cond (Nat.beq (Nat.mod i 2) 1) (gl (Nat.div (Nat.sub i 1) 2)) (gr (Nat.div (Nat.sub i 1) 2)))) t
theorem Tr.get_e {α : Type} {d : α} {i : Nat} : Tr.get d .e i = d := rfl
theorem Tr.get_n {α : Type} {d v : α} {l r : Tr α} {i : Nat} : Tr.get d (.n v l r) i = bif Nat.beq i 0 then v else bif Nat.beq (i % 2) 1 then l.get d ((i - 1) / 2) else r.get d ((i - 1) / 2) := rfl

def Tr.map {α : Type} (f : α → α) : Tr α → Tr α
  | .e => .e
  | .n v l r => .n (f v) (Tr.map f l) (Tr.map f r)
theorem Tr.get_map {α : Type} {d : α} {f : α → α} (hd : f d = d) : ∀ {t : Tr α} {i : Nat}, (t.map f).get d i = f (t.get d i)
  | .e, i => hd.symm
  | .n v l r, i => by
    rw [Tr.map, Tr.get_n, Tr.get_n]
    cases Nat.beq i 0 with
    | true => rfl
    | false =>
      simp only [cond_false]
      cases Nat.beq (i % 2) 1 with
      | true => exact Tr.get_map hd
      | false => exact Tr.get_map hd

/-- What a range over a function runs: where its schedules are looked for, how many slots, the parameters, the codes. -/
structure RB where
  key : FuncId
  nt : Nat
  params : Array Tmp
  assign : Code
  body : Code

/-- A chunk's contents: cells one by one, or n elements of sz cells (q: how many there is room for, if that is known); a map's entries; a range over a function (its state, the jump that is pending, the slots as it began, its block of calls put off); such a block. -/
inductive Ch where
  | cells (ty : TypeId) (vs : List V)
  | rows (ty : TypeId) (n : Nat) (q : Option Nat) (sz : Nat) (f : Nat → List V)
  | mp (es : List (Value × V))
  | lp (rb : RB) (st : LoopState) (pend : Option Code) (sl : Tr (Option V)) (dq : Nat)
  | dq (open_ : Bool)

def look {α : Type} (i : Nat) : List (Nat × α) → Option α
  | [] => none
  | (j, v) :: r => bif Nat.beq i j then some v else look i r

/-- A chunk's block, and for how many rows it has room. -/
structure Bk where
  b : Nat
  cap : Nat

/-- May the value stand in one cell? -/
abbrev cellVal : Value → Bool := Value.oneCell'

inductive RD (S : Nat → Prop) (w : World) : D → Value → Prop
  | v {x : Value} : cellVal x = true → RD S w (.v x) x
  | nil {q : Option Bool} {sz : Nat} {f : Nat → List D} : q ≠ some false → RD S w (.sl q 0 sz f) (.slice none 0 0)
  | e {q : Option Bool} {sz b off cap : Nat} {f : Nat → List D} : q ≠ some true → RD S w (.sl q 0 sz f) (.slice (some ⟨b, off, none⟩) 0 cap)
  | sl {q : Option Bool} {n sz b off cap : Nat} {f : Nat → List D} (g : Nat → Nat → Value) : q ≠ some true → S b → n ≤ cap → (∀ i, i < n → (f i).length = sz) →
      (∀ i k, i < n → k < sz → w.cell? ⟨b, off + (i * sz + k), none⟩ = some (g i k)) →
      (∀ i k d, i < n → (f i)[k]? = some d → RD S w d (g i k)) → RD S w (.sl q n sz f) (.slice (some ⟨b, off, none⟩) n cap)

theorem RD.cellVal {S : Nat → Prop} {w : World} {d : D} {x : Value} (h : RD S w d x) : cellVal x = true := by
  cases h <;> first | assumption | rfl

/-- In w' all that S names is as it was in w. -/
def Same (S : Nat → Prop) (w w' : World) : Prop := ∀ b, S b → w'.heap[b]? = w.heap[b]?

theorem Same.cell {S : Nat → Prop} {w w' : World} (h : Same S w w') {b off : Nat} (hb : S b) : w'.cell? ⟨b, off, none⟩ = w.cell? ⟨b, off, none⟩ := by
  simp [World.cell?, h b hb]

theorem RD.mono {S S' : Nat → Prop} {w w' : World} (hS : ∀ b, S b → S' b) (hw : Same S w w') {d : D} {x : Value} (h : RD S w d x) : RD S' w' d x := by
  induction h with
  | v h => exact .v h
  | nil hq => exact .nil hq
  | e hq => exact .e hq
  | sl g hq hb hn hl hc _ ih => exact .sl g hq (hS _ hb) hn hl (fun i k hi hk => (hw.cell hb).trans (hc i k hi hk)) ih

/-- A slice's capacity: as it is known, or up to the end. -/
def capOf : Option Nat → Nat → Nat
  | some k, _ => k
  | none, d => d

inductive RV (ρ : Nat → Bk) (N : Nat) (S : Nat → Prop) (w : World) : V → Value → Prop
  | d {x : D} {v : Value} : RD S w x v → RV ρ N S w (.d x) v
  | pp {ds : List D} {b off : Nat} (g : Nat → Value) : S b → (∀ k, k < ds.length → w.cell? ⟨b, off + k, none⟩ = some (g k)) →
      (∀ k d, ds[k]? = some d → RD S w d (g k)) → RV ρ N S w (.pp ds) (.pointer (some ⟨b, off, none⟩))
  | pr {n sz b off : Nat} {f : Nat → List D} (g : Nat → Nat → Value) : S b → (∀ i, i < n → (f i).length = sz) →
      (∀ i k, i < n → k < sz → w.cell? ⟨b, off + (i * sz + k), none⟩ = some (g i k)) →
      (∀ i k d, i < n → (f i)[k]? = some d → RD S w d (g i k)) → RV ρ N S w (.pr n sz f) (.pointer (some ⟨b, off, none⟩))
  | loc {c off : Nat} : c < N → RV ρ N S w (.loc c off) (.pointer (some ⟨(ρ c).b, off, none⟩))
  | re {c i k sz : Nat} : c < N → RV ρ N S w (.re c i k sz) (.pointer (some ⟨(ρ c).b, i * sz + k, none⟩))
  | ms {c off n sz : Nat} {q : Option Nat} : c < N → n ≤ capOf q ((ρ c).cap - off) → off + capOf q ((ρ c).cap - off) ≤ (ρ c).cap →
      RV ρ N S w (.ms c off n q sz) (.slice (some ⟨(ρ c).b, off * sz, none⟩) n (capOf q ((ρ c).cap - off)))
  | z0 {q : Option Bool} : q ≠ some false → RV ρ N S w (.z q) (.slice none 0 0)
  | z1 {q : Option Bool} {b off : Nat} : q ≠ some true → RV ρ N S w (.z q) (.slice (some ⟨b, off, none⟩) 0 0)
  | mp {c : Nat} : c < N → RV ρ N S w (.mp c) (.map (some (ρ c).b))
  | yl {c : Nat} : c < N → RV ρ N S w (.yl c) (.func (.yield (ρ c).b) #[] #[])
  | agg {vs : List V} {xs : List Value} : vs.length = xs.length → (∀ (k : Nat) a b, vs[k]? = some a → xs[k]? = some b → RV ρ N S w a b) → RV ρ N S w (.agg vs) (.agg xs.toArray)
  | fn {f : FuncId} {as bs : List V} {xs ys : List Value} : as.length = xs.length → (∀ (k : Nat) a b, as[k]? = some a → xs[k]? = some b → RV ρ N S w a b) →
      bs.length = ys.length → (∀ (k : Nat) a b, bs[k]? = some a → ys[k]? = some b → RV ρ N S w a b) → RV ρ N S w (.fn f as bs) (.func (.func f) xs.toArray ys.toArray)
  | tup {vs : List V} {xs : List Value} : vs.length = xs.length → (∀ (k : Nat) a b, vs[k]? = some a → xs[k]? = some b → RV ρ N S w a b) → RV ρ N S w (.tup vs) (.tuple xs.toArray)

/-- Row by row. -/
def RVs (ρ : Nat → Bk) (N : Nat) (S : Nat → Prop) (w : World) (vs : List V) (xs : List Value) : Prop :=
  vs.length = xs.length ∧ ∀ (k : Nat) a b, vs[k]? = some a → xs[k]? = some b → RV ρ N S w a b

theorem RVs.nil {ρ N S w} : RVs ρ N S w [] [] := ⟨rfl, fun k a b h => by simp at h⟩
theorem RVs.cons {ρ N S w a x as xs} (h : RV ρ N S w a x) (t : RVs ρ N S w as xs) : RVs ρ N S w (a :: as) (x :: xs) :=
  ⟨by simp [t.1], fun k a' b' ha hb => by
    cases k with
    | zero => simp at ha hb; subst ha; subst hb; exact h
    | succ k => exact t.2 k a' b' (by simpa using ha) (by simpa using hb)⟩
theorem RVs.head {ρ N S w a x as xs} (h : RVs ρ N S w (a :: as) (x :: xs)) : RV ρ N S w a x := h.2 0 a x rfl rfl
theorem RVs.tail {ρ N S w a x as xs} (h : RVs ρ N S w (a :: as) (x :: xs)) : RVs ρ N S w as xs :=
  ⟨by simpa using h.1, fun k a' b' ha hb => h.2 (k + 1) a' b' (by simpa using ha) (by simpa using hb)⟩
theorem RVs.nil_eq {ρ N S w xs} (h : RVs ρ N S w [] xs) : xs = [] := by
  cases xs with
  | nil => rfl
  | cons x xs => simp [RVs] at h
theorem RVs.cons_eq {ρ N S w a as xs} (h : RVs ρ N S w (a :: as) xs) : ∃ x ys, xs = x :: ys ∧ RV ρ N S w a x ∧ RVs ρ N S w as ys := by
  cases xs with
  | nil => simp [RVs] at h
  | cons x xs => exact ⟨x, xs, rfl, h.head, h.tail⟩
theorem RVs.app {ρ N S w} {as bs : List V} {xs ys : List Value} (h : RVs ρ N S w as xs) (g : RVs ρ N S w bs ys) : RVs ρ N S w (as ++ bs) (xs ++ ys) := by
  induction as generalizing xs with
  | nil => rw [h.nil_eq]; exact g
  | cons a as ih =>
    obtain ⟨x, zs, rfl, h1, h2⟩ := h.cons_eq
    exact .cons h1 (ih h2)

theorem RV.mono {ρ ρ' : Nat → Bk} {N N' : Nat} {S S' : Nat → Prop} {w w' : World} (hN : N ≤ N') (hρ : ∀ c, c < N → ρ' c = ρ c) (hS : ∀ b, S b → S' b) (hw : Same S w w')
    {a : V} {x : Value} (h : RV ρ N S w a x) : RV ρ' N' S' w' a x := by
  induction h with
  | d h => exact .d (h.mono hS hw)
  | pp g hb hc hd => exact .pp g (hS _ hb) (fun k hk => (hw.cell hb).trans (hc k hk)) (fun k d hk => (hd k d hk).mono hS hw)
  | pr g hb hl hc hd => exact .pr g (hS _ hb) hl (fun i k hi hk => (hw.cell hb).trans (hc i k hi hk)) (fun i k d hi hk => (hd i k d hi hk).mono hS hw)
  | loc h => rw [← hρ _ h]; exact .loc (Nat.lt_of_lt_of_le h hN)
  | re h => rw [← hρ _ h]; exact .re (Nat.lt_of_lt_of_le h hN)
  | ms h hn hm => rw [← hρ _ h] at hn hm ⊢; exact .ms (Nat.lt_of_lt_of_le h hN) hn hm
  | z0 h => exact .z0 h
  | z1 h => exact .z1 h
  | mp h => rw [← hρ _ h]; exact .mp (Nat.lt_of_lt_of_le h hN)
  | yl h => rw [← hρ _ h]; exact .yl (Nat.lt_of_lt_of_le h hN)
  | agg hl _ ih => exact .agg hl ih
  | fn hl _ hl' _ ih ih' => exact .fn hl ih hl' ih'
  | tup hl _ ih => exact .tup hl ih

theorem RVs.mono {ρ ρ' : Nat → Bk} {N N' : Nat} {S S' : Nat → Prop} {w w' : World} (hN : N ≤ N') (hρ : ∀ c, c < N → ρ' c = ρ c) (hS : ∀ b, S b → S' b) (hw : Same S w w')
    {as : List V} {xs : List Value} (h : RVs ρ N S w as xs) : RVs ρ' N' S' w' as xs := ⟨h.1, fun k a b ha hb => (h.2 k a b ha hb).mono hN hρ hS hw⟩

/-- A chunk's contents in the world. -/
def HC (ρ : Nat → Bk) (N : Nat) (S : Nat → Prop) (w : World) (c : Nat) : Ch → Prop
  | .cells ty vs => ∃ xs : List Value, w.heap[(ρ c).b]? = some (.cells xs.toArray ty (0, 0)) ∧ RVs ρ N S w vs xs ∧ ∀ x ∈ xs, cellVal x = true
  | .rows ty n q sz f => ∃ xs : List Value, w.heap[(ρ c).b]? = some (.cells xs.toArray ty (0, 0)) ∧ (n ≤ (ρ c).cap ∧ (ρ c).cap ≤ maxLen ∧ xs.length = (ρ c).cap * sz ∧ (∀ k, q = some k → (ρ c).cap = k) ∧ ∀ x ∈ xs, cellVal x = true) ∧
      ∀ i, i < n → (f i).length = sz ∧ ∀ k d, (f i)[k]? = some d → ∃ b, xs[i * sz + k]? = some b ∧ RV ρ N S w d b
  | .mp es => ∃ (ms : Array MapEntry) (clk : Nat), w.heap[(ρ c).b]? = some (.map ms clk) ∧ ms.toList.map (·.key) = es.map (·.1) ∧ RVs ρ N S w (es.map (·.2)) (ms.toList.map (·.val))
  | .lp rb st pend sl dq => ∃ (fn : FuncId) (tmps : Array Value), w.heap[(ρ c).b]? = some (.loop { state := st, pending := pend, fn := fn, tmps := tmps, params := rb.params, assign := rb.assign, body := rb.body, defers := (ρ dq).b }) ∧ (tmps.size = rb.nt ∧ dq < N) ∧
      ∀ i v, sl.get none i = some v → i < rb.nt → ∃ x, tmps[i]? = some x ∧ RV ρ N S w v x
  | .dq op => w.heap[(ρ c).b]? = some (.deferred (match op with
      | true => some []
      | false => none))

theorem HC.mono {ρ ρ' : Nat → Bk} {N N' : Nat} {S S' : Nat → Prop} {w w' : World} (hN : N ≤ N') (hρ : ∀ c, c < N → ρ' c = ρ c) (hS : ∀ b, S b → S' b) (hw : Same S w w')
    {c : Nat} (hc : ρ' c = ρ c) (hb : w'.heap[(ρ c).b]? = w.heap[(ρ c).b]?) {ch : Ch} (h : HC ρ N S w c ch) : HC ρ' N' S' w' c ch := by
  cases ch with
  | cells ty vs =>
    obtain ⟨xs, h1, h2, h3⟩ := h
    exact ⟨xs, by rw [hc, hb]; exact h1, h2.mono hN hρ hS hw, h3⟩
  | rows ty n q sz f =>
    obtain ⟨xs, h1, h2, h3⟩ := h
    refine ⟨xs, by rw [hc, hb]; exact h1, by rw [hc]; exact h2, fun i hi => ⟨(h3 i hi).1, fun k d hk => ?_⟩⟩
    obtain ⟨b, h4, h5⟩ := (h3 i hi).2 k d hk
    exact ⟨b, h4, h5.mono hN hρ hS hw⟩
  | mp es =>
    obtain ⟨ms, clk, h1, h2, h3⟩ := h
    exact ⟨ms, clk, by rw [hc, hb]; exact h1, h2, h3.mono hN hρ hS hw⟩
  | lp rb st pend sl dq =>
    obtain ⟨fn, tmps, h1, h2, h3⟩ := h
    refine ⟨fn, tmps, by rw [hc, hb, hρ dq h2.2]; exact h1, ⟨h2.1, Nat.lt_of_lt_of_le h2.2 hN⟩, fun i v hv hi => ?_⟩
    obtain ⟨x, h4, h5⟩ := h3 i v hv hi
    exact ⟨x, h4, h5.mono hN hρ hS hw⟩
  | dq op => show w'.heap[(ρ' c).b]? = _; rw [hc, hb]; exact h

/-- The chunks that a call owns, by number; none: it is gone. -/
structure Heap (ρ : Nat → Bk) (S : Nat → Prop) (w : World) (hp : List (Option Ch)) : Prop where
  at_ : ∀ c ch, hp[c]? = some (some ch) → HC ρ hp.length S w c ch
  out : ∀ c ch, hp[c]? = some (some ch) → ¬ S (ρ c).b
  inj : ∀ c c' ch ch', hp[c]? = some (some ch) → hp[c']? = some (some ch') → (ρ c).b = (ρ c').b → c = c'
  old : ∀ b, S b → b < w.heap.size

theorem HC.lt {ρ N S w c ch} (h : HC ρ N S w c ch) : (ρ c).b < w.heap.size := by
  cases ch with
  | cells ty vs => obtain ⟨xs, h1, _⟩ := h; exact (Array.getElem?_eq_some_iff.1 h1).1
  | rows ty n q sz f => obtain ⟨xs, h1, _⟩ := h; exact (Array.getElem?_eq_some_iff.1 h1).1
  | mp es => obtain ⟨ms, clk, h1, _⟩ := h; exact (Array.getElem?_eq_some_iff.1 h1).1
  | lp rb st pend sl dq => obtain ⟨fn, tmps, h1, _⟩ := h; exact (Array.getElem?_eq_some_iff.1 h1).1
  | dq op => exact (Array.getElem?_eq_some_iff.1 (show w.heap[(ρ c).b]? = some _ from h)).1

/-- What has become of the world since a call began: of what was there only the blocks W0 may have turned. -/
structure Hist (w0 : World) (S0 W0 : Nat → Prop) (S : Nat → Prop) (w : World) : Prop where
  os : w.os = w0.os
  tape : w.tape = w0.tape
  output : w.output = w0.output
  size : w0.heap.size ≤ w.heap.size
  blk : ∀ b, b < w0.heap.size → ¬ W0 b → w.heap[b]? = w0.heap[b]?
  per : ∀ b, S b → S0 b ∨ w0.heap.size ≤ b

end Go.E
