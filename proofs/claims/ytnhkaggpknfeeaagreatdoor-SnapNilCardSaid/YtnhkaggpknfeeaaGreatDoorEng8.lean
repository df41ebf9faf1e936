/-
  THE ENGINE, PART 8: the operations that leave the world alone (silVC); those that don't; one operation, whatever it is (opVC).
-/
import Derived.Test.YtnhkaggpknfeeaaGreatDoorEngL
import Derived.Test.YtnhkaggpknfeeaaGreatDoorEngB
namespace Go.E
open Go

section
variable {E : Env} {nt : Nat} {w0 : World} {S0 W0 : Nat → Prop} {m : Nat} {ρ0 ρ : Nat → Bk} {S : Nat → Prop} {w w' : World} {s : St} {a : Act}

theorem RV.cells_ok {N} {v : V} {x : Value} (hr : RV ρ N S w v x) : (∀ vs, v ≠ .agg vs) → (∀ vs, v ≠ .tup vs) → cellVal x = true := by
  intro h1 h2
  cases hr with
  | d h => exact h.cellVal
  | agg _ _ => exact absurd rfl (h1 _)
  | tup _ _ => exact absurd rfl (h2 _)
  | pp _ _ _ _ => rfl
  | pr _ _ _ _ _ => rfl
  | loc _ => rfl
  | re _ => rfl
  | ms _ _ _ => rfl
  | z0 _ => rfl
  | z1 _ => rfl
  | mp _ => rfl
  | yl _ => rfl
  | fn _ _ _ _ => rfl

/-- May all of a value's cells stand in cells? -/
def flatV : List V → Bool
  | [] => true
  | .agg _ :: _ => false
  | .tup _ :: _ => false
  | _ :: l => flatV l
theorem flatV.out {N} : ∀ {vs : List V} {xs : List Value}, flatV vs = true → RVs ρ N S w vs xs → ∀ x ∈ xs, cellVal x = true
  | [], xs, _, hr, x, hx => by rw [hr.nil_eq] at hx; simp at hx
  | v :: vs, xs, h, hr, x, hx => by
    obtain ⟨y, ys, rfl, h1, h2⟩ := hr.cons_eq
    have h3 : (∀ us, v ≠ .agg us) ∧ (∀ us, v ≠ .tup us) ∧ flatV vs = true := by cases v <;> simp_all [flatV]
    rcases List.mem_cons.1 hx with rfl | hx
    · exact h1.cells_ok h3.1 h3.2.1
    · exact flatV.out h3.2.2 h2 x hx

def flatK (v : V) (q : Prop) : Prop := bif flatV (cellsOf v) then q else False
theorem flatK.out {N} {v : V} {x : Value} {q : Prop} (h : flatK v q) (hr : RV ρ N S w v x) (hne : ∀ vs, v ≠ .tup vs) : (∀ z ∈ x.cells.toList, cellVal z = true) ∧ q := by
  unfold flatK at h
  cases hf : flatV (cellsOf v) with
  | true => rw [hf] at h; exact ⟨flatV.out hf (cellsOf.out hr hne), h⟩
  | false => rw [hf] at h; exact h.elim

/-! ### the operations -/
def extractVC (v : V) (i : Nat) (k : V → Prop) : Prop := match v with
  | .tup vs => match nth vs i with
    | some u => k u
    | none => False
  | _ => False
def nilCheckVC (v : V) (k : V → Prop) : Prop := match v with
  | .loc c o => k (.loc c o)
  | .pp ds => k (.pp ds)
  | .re c i kk sz => k (.re c i kk sz)
  | _ => False
def convVC (E : Env) (src dst : TypeId) (v : V) (k : V → Prop) : Prop := match E.T src, E.T dst with
  | some _, some td => match td.desc, v with
    | .int q, .d (.v (.int _ n)) => k (.int q (q.wrap n))
    | .string, .d (.v (.string b)) => k (.str b)
    | _, _ => False
  | _, _ => False
def minmaxVC (b : Builtin) (u v : V) (k : V → Prop) : Prop := match b, u, v with
  | .min, .d (.v (.int p x)), .d (.v (.int _ y)) => k (.int p (if y < x then y else x))
  | .max, .d (.v (.int p x)), .d (.v (.int _ y)) => k (.int p (if y > x then y else x))
  | _, _, _ => False
/-- A part of an aggregate. -/
def partVC (E : Env) (t : TypeId) (v : V) (i : Nat) (k : V → Prop) : Prop := match E.T t with
  | some ti => match ti.desc, v with
    | .struct fs, .agg vs => match nth fs.toList i with
      | some fd => match E.T fd.type with
        | some tf => dropK fd.offset vs fun r => takeK tf.size r fun q => loadK tf q k
        | none => False
      | none => False
    | _, _ => False
  | none => False
def boundK (E : Env) (s : St) (o : Option Operand) (d : Int) (k : Int → Prop) : Prop := match o with
  | some x => evK E s x fun v => vint v fun _ n => k n
  | none => k d
/-- A slice over own rows, from l to h of n; q: its capacity. -/
def msCut (c off n : Nat) (q : Option Nat) (sz : Nat) (l h : Int) (k : V → Prop) : Prop :=
  (0 ≤ l ∧ l ≤ h ∧ h ≤ n) ∧ bif (decide (l = 0) || decide (l < n)) then k (.ms c (off + l.toNat) (h.toNat - l.toNat) (q.map (· - l.toNat)) sz) else k (.d (.sl (some false) 0 sz fun _ => []))
def sliceVC (E : Env) (t : TypeId) (s : St) (p : V) (lo hi mx : Option Operand) (k : V → Prop) : Prop := match E.T t with
  | some ti => match mx with
    | none => match ti.desc, p with
      | .string, .d (.v (.string b)) => boundK E s lo 0 fun l => boundK E s hi b.size fun h => (0 ≤ l ∧ l ≤ h ∧ h ≤ b.size) ∧ k (.str (b.extract l.toNat h.toNat))
      | .slice e, .d (.sl q n sz f) => match E.T e with
        | some te => bif Nat.beq sz te.size then boundK E s lo 0 fun l => boundK E s hi n fun h => (0 ≤ l ∧ l ≤ h ∧ h ≤ n) ∧ k (.d (.sl q (h.toNat - l.toNat) sz fun i => f (l.toNat + i))) else False
        | none => False
      | .slice e, .ms c off n q sz => match E.T e with
        | some te => bif Nat.beq sz te.size then boundK E s lo 0 fun l => boundK E s hi n fun h => msCut c off n q sz l h k else False
        | none => False
      | _, _ => False
    | some x => match ti.desc, p with
      | .slice e, .d (.sl q n sz f) => match E.T e with
        | some te => bif Nat.beq sz te.size then boundK E s lo 0 fun l => boundK E s hi n fun h => boundK E s (some x) 0 fun g => (0 ≤ l ∧ l ≤ h ∧ h ≤ g ∧ g ≤ n ∧ hi.isSome = true) ∧
            bif decide (l = g) then k (.z q) else k (.d (.sl q (h.toNat - l.toNat) sz fun i => f (l.toNat + i))) else False
        | none => False
      | .slice e, .ms c off n q sz => match E.T e with
        | some te => bif Nat.beq sz te.size then boundK E s lo 0 fun l => boundK E s hi n fun h => boundK E s (some x) 0 fun g => (0 ≤ l ∧ l ≤ h ∧ h ≤ g ∧ g ≤ n ∧ hi.isSome = true) ∧
            bif decide (l = g) then k (.z (some false)) else k (.ms c (off + l.toNat) (h.toNat - l.toNat) (some (g.toNat - l.toNat)) sz) else False
        | none => False
      | _, _ => False
  | none => False
def strIndexVC (E : Env) (t : TypeId) (v i : V) (k : V → Prop) : Prop := match E.T t with
  | some ti => match ti.desc, v with
    | .string, .d (.v (.string b)) => vint i fun _ j => (0 ≤ j ∧ j < b.size) ∧ k (.int .u8 ((b.data.toList.getD j.toNat 0).toNat))
    | _, _ => False
  | none => False
def lenVC (E : Env) (t : TypeId) (v : V) (k : V → Prop) : Prop := match E.T t with
  | some ti => match ti.desc, v with
    | .slice _, .d (.sl _ n _ _) => k (.int .i64 n)
    | .slice _, .ms _ _ n _ _ => k (.int .i64 n)
    | .slice _, .z _ => k (.int .i64 0)
    | .string, .d (.v (.string b)) => k (.int .i64 b.size)
    | _, _ => False
  | none => False

def evsK (E : Env) (s : St) : List Operand → (List V → Prop) → Prop
  | [], k => k []
  | x :: l, k => evK E s x fun v => evsK E s l fun r => k (v :: r)
theorem evsK.out : ∀ {l : List Operand} {k : List V → Prop}, evsK E s l k → Inv E nt w0 S0 W0 m ρ0 ρ S w s a → ∃ vs, RVs ρ s.hp.length S w vs (l.map a.eval) ∧ k vs
  | [], _, h, _ => ⟨[], .nil, h⟩
  | x :: l, k, h, inv => by
    obtain ⟨v, hv, h⟩ := evK.out (k := fun v => evsK E s l fun r => k (v :: r)) h inv
    obtain ⟨vs, hvs, h⟩ := evsK.out h inv
    exact ⟨v :: vs, .cons hv hvs, h⟩

/-! ### what leaves the world alone -/
def silVC (E : Env) (o : Op) (s : St) (k : V → Prop) : Prop := match o with
  | .move x => evK E s x k
  | .assign x => evK E s x k
  | .pick c x y => evK E s c fun v => vbool v fun t => bsel t (evK E s x k) (evK E s y k)
  | .binOp op t x y _ => evK E s x fun u => evK E s y fun v => binVC E op t u v k
  | .unOp op _ x => evK E s x fun u => unVC op u k
  | .load t x => evK E s x fun p => loadVC E t s p k
  | .fieldAddr t x f => evK E s x fun p => fieldVC E t p f k
  | .indexAddr t x i => evK E s x fun p => evK E s i fun j => indexVC E t s p j k
  | .index t x i => evK E s x fun p => evK E s i fun j => strIndexVC E t p j k
  | .field t x i => evK E s x fun v => partVC E t v i k
  | .slice t x lo hi mx => evK E s x fun p => sliceVC E t s p lo hi mx k
  | .extract x i => evK E s x fun v => extractVC v i k
  | .nilCheck x => evK E s x fun v => nilCheckVC v k
  | .convert src dst x => evK E s x fun v => convVC E src dst v k
  | .makeFunc (.func f) first caps => evsK E s first.toList fun us => evsK E s caps.toList fun vs => k (.fn f us vs)
  | .call c => match c.callee with
    | .builtin b => match b, c.argTypes.toList, c.args.toList with
      | .len, [t], [x] => evK E s x fun v => lenVC E t v k
      | b, _, [x, y] => evK E s x fun u => evK E s y fun v => minmaxVC b u v k
      | _, _, _ => False
    | _ => False
  | _ => False

/-- Which operations are tried so. -/
def isSil : Op → Bool
  | .move _ | .assign _ | .pick _ _ _ | .binOp _ _ _ _ _ | .unOp _ _ _ | .load _ _ | .fieldAddr _ _ _ | .indexAddr _ _ _ | .index _ _ _ | .field _ _ _ | .slice _ _ _ _ _ | .extract _ _ | .nilCheck _
  | .convert _ _ _ | .makeFunc _ _ _ => true
  | .call c => match c.callee with
    | .builtin .len | .builtin .min | .builtin .max => true
    | _ => false
  | _ => false

theorem extractVC.out {N} {v : V} {x : Value} {i : Nat} {k : V → Prop} (h : extractVC v i k) (hr : RV ρ N S w v x) (P : Program) :
    ∃ u y, (∀ w, (Instr.extract x i).run P w = .ok y w) ∧ RV ρ N S w u y ∧ k u := by
  unfold extractVC at h
  split at h
  · rename_i vs
    rw [nth_eq] at h
    split at h
    · rename_i u hu
      cases hr with | tup hl hv =>
      rename_i xs
      have hi : i < xs.length := by rw [← hl]; exact (List.getElem?_eq_some_iff.1 hu).1
      have hx : xs[i]? = some xs[i] := List.getElem?_eq_getElem hi
      exact ⟨u, xs[i], by simp [Instr.extract, hx], hv i _ _ hu hx, h⟩
    · exact h.elim
  · exact h.elim

theorem boundK.out {o : Option Operand} {d : Int} {k : Int → Prop} (inv : Inv E nt w0 S0 W0 m ρ0 ρ S w s a) (h : boundK E s o d k) :
    ∃ n, k n ∧ ((o = none ∧ n = d) ∨ ∃ x q, o = some x ∧ a.eval x = .int q n) := by
  cases o with
  | none => exact ⟨d, h, .inl ⟨rfl, rfl⟩⟩
  | some x =>
    obtain ⟨v, hv, h⟩ := evK.out (k := fun v => vint v fun _ n => k n) h inv
    obtain ⟨q, n, e, h⟩ := h.out hv
    exact ⟨n, h, .inr ⟨x, q, rfl, e⟩⟩

/-- Does it look at the world? -/
def isLd : Op → Bool
  | .load _ _ => true
  | _ => false

/-- What an operation that leaves the world alone comes to. -/
def SilOk (E : Env) (ρ : Nat → Bk) (S : Nat → Prop) (s : St) (a : Act) (w : World) (o : Oper) (k : V → Prop) : Prop :=
  ∃ x v, (∀ w', (isLd o.op = true → Same (Known ρ S s.hp) w w') → (execOp a.eval o).run E.P w' = .ok (.value x) w') ∧ RV ρ s.hp.length S w v x ∧ k v

theorem run_bounds (P : Program) (q : Bool) (len cap : Nat) (lo hi : Option Value) (l g : Int) (hl : (lo = none ∧ l = 0) ∨ ∃ k, lo = some (.int k l)) (hg : (hi = none ∧ g = (len : Int)) ∨ ∃ k, hi = some (.int k g))
    (h1 : 0 ≤ l) (h2 : l ≤ g) (h3 : g ≤ (cap : Int)) (w : World) : (Instr.sliceBounds q len cap lo hi none).run P w = .ok (l.toNat, g.toNat, cap) w := by
  have c1 : 0 ≤ g := by omega
  have c3 : l ≤ (g.toNat : Int) := by omega
  rcases hl with ⟨rfl, rfl⟩ | ⟨k, rfl⟩ <;> rcases hg with ⟨rfl, rfl⟩ | ⟨k', rfl⟩
  · simp [Instr.sliceBounds]
  · simp [Instr.sliceBounds, Instr.sliceBound, asIntOf, c1, h3]
  · have c4 : l ≤ (len : Int) := h2
    simp [Instr.sliceBounds, Instr.sliceBound, asIntOf, h1, c4]
  · have c5 : l ≤ max g 0 := by omega
    simp [Instr.sliceBounds, Instr.sliceBound, asIntOf, h1, c1, h3, c5]

theorem run_bounds3 (P : Program) (q : Bool) (len cap : Nat) (lo : Option Value) (k k' : IntKind) (l g h : Int) (hl : (lo = none ∧ l = 0) ∨ ∃ k, lo = some (.int k l))
    (h1 : 0 ≤ l) (h2 : l ≤ g) (h3 : g ≤ h) (h4 : h ≤ (cap : Int)) (w : World) : (Instr.sliceBounds q len cap lo (some (.int k g)) (some (.int k' h))).run P w = .ok (l.toNat, g.toNat, h.toNat) w := by
  have c1 : 0 ≤ g := by omega
  have c2 : 0 ≤ h := by omega
  have c3 : l ≤ max g 0 := by omega
  have c4 : g ≤ max h 0 := by omega
  rcases hl with ⟨rfl, rfl⟩ | ⟨k, rfl⟩
  · simp [Instr.sliceBounds, Instr.sliceBound, asIntOf, c1, c2, c4, h4]
  · simp [Instr.sliceBounds, Instr.sliceBound, asIntOf, h1, c1, c2, c3, c4, h4]

theorem lo_map {lo : Option Operand} {l : Int} (hl : (lo = none ∧ l = 0) ∨ ∃ x q, lo = some x ∧ a.eval x = .int q l) : (lo.map a.eval = none ∧ l = 0) ∨ ∃ k, lo.map a.eval = some (.int k l) := by
  rcases hl with ⟨rfl, rfl⟩ | ⟨x, q, rfl, h⟩
  · exact .inl ⟨rfl, rfl⟩
  · exact .inr ⟨q, by simp [h]⟩
theorem hi_map {hi : Option Operand} {g : Int} {n : Nat} (hg : (hi = none ∧ g = (n : Int)) ∨ ∃ x q, hi = some x ∧ a.eval x = .int q g) : (hi.map a.eval = none ∧ g = (n : Int)) ∨ ∃ k, hi.map a.eval = some (.int k g) := by
  rcases hg with ⟨rfl, rfl⟩ | ⟨x, q, rfl, h⟩
  · exact .inl ⟨rfl, rfl⟩
  · exact .inr ⟨q, by simp [h]⟩
theorem hi_some {hi : Option Operand} {g d : Int} (hg : (hi = none ∧ g = d) ∨ ∃ x q, hi = some x ∧ a.eval x = .int q g) (h : hi.isSome = true) : ∃ k, hi.map a.eval = some (.int k g) := by
  rcases hg with ⟨rfl, rfl⟩ | ⟨x, q, rfl, h'⟩
  · simp at h
  · exact ⟨q, by simp [h']⟩

/-- A slice of numbers is cut. -/
theorem run_cut {P : Program} {t e : TypeId} {te : TI} (hu : P.underlying t = some (.slice e)) (hT : TOk P e te) (q : Option Addr) (n cap : Nat) (lo hi mx : Option Value) (l g h : Nat) (w : World)
    (hb : (Instr.sliceBounds true n cap lo hi mx).run P w = .ok (l, g, h) w) : (Instr.sliceAt t (.slice q n cap) lo hi mx).run P w = .ok (.slice (if h = l then q else q.map (·.add (l * te.size))) (g - l) (h - l)) w := by
  have hsz := hT.size w
  simp only [Instr.sliceAt, Instr.slice, Sem.run_bind, run_underlying hu, hb, hsz, Result.andThen_ok, Sem.run_pure]

theorem add_if (c : Prop) [Decidable c] (b off k : Nat) (h : c → k = 0) : (if c then (some ⟨b, off, none⟩ : Option Addr) else (some ⟨b, off, none⟩ : Option Addr).map (·.add k)) = some ⟨b, off + k, none⟩ := by
  by_cases hc : c
  · rw [if_pos hc, h hc]; rfl
  · rw [if_neg hc]; simp [Addr.add_at]

theorem sliceVC.out {t : TypeId} {p : V} {x : Value} {lo hi mx : Option Operand} {k : V → Prop} (hE : E.Ok) (inv : Inv E nt w0 S0 W0 m ρ0 ρ S w s a) (h : sliceVC E t s p lo hi mx k) (hr : RV ρ s.hp.length S w p x) :
    ∃ v y, (∀ w, (Instr.sliceAt t x (lo.map a.eval) (hi.map a.eval) (mx.map a.eval)).run E.P w = .ok y w) ∧ RV ρ s.hp.length S w v y ∧ k v := by
  unfold sliceVC at h
  split at h
  · rename_i ti hti
    have hu := und_eq hE hti
    split at h
    · split at h
      · rename_i b hd
        rw [hd] at hu
        obtain ⟨l, h, hl⟩ := boundK.out inv h
        obtain ⟨g, h, hg⟩ := boundK.out inv h
        obtain ⟨⟨b1, b2, b3⟩, h⟩ := h
        have hx := RV.scalar hr
        subst hx
        refine ⟨_, .string (b.extract l.toNat g.toNat), fun w => ?_, .d (.v rfl), h⟩
        have hb := run_bounds E.P false b.size b.size _ _ l g (lo_map hl) (hi_map hg) b1 b2 b3
        simp [Instr.sliceAt, Instr.slice, run_underlying hu, hb]
      · rename_i e q n sz f hd
        rw [hd] at hu
        split at h
        · rename_i te hte
          cases hz : Nat.beq sz te.size with
          | false => rw [hz] at h; exact h.elim
          | true =>
          rw [hz] at h
          have hz' := Nat.eq_of_beq_eq_true hz
          subst hz'
          simp only [cond_true] at h
          obtain ⟨l, h, hl⟩ := boundK.out inv h
          obtain ⟨g, h, hg⟩ := boundK.out inv h
          obtain ⟨⟨b1, b2, b3⟩, h⟩ := h
          have hT := hE.T _ _ hte
          have c1 : 0 ≤ g := by omega
          have c3 : (g.toNat : Int) = g := by omega
          have c4 : (l.toNat : Int) = l := by omega
          cases hr with | d hr =>
          cases hr with
          | nil hq =>
            have e1 : l = 0 := by omega
            have e2 : g = 0 := by omega
            subst e1; subst e2
            exact ⟨_, _, fun w => run_cut hu hT none 0 0 _ _ none 0 0 0 w (run_bounds E.P true 0 0 _ _ 0 0 (lo_map hl) (hi_map hg) b1 b2 b3 w), .d (.nil hq), h⟩
          | @e _ _ bk off cap _ hq =>
            have e1 : l = 0 := by omega
            have e2 : g = 0 := by omega
            subst e1; subst e2
            refine ⟨_, _, fun w => run_cut hu hT _ 0 cap _ _ none 0 0 cap w (run_bounds E.P true 0 cap _ _ 0 0 (lo_map hl) (hi_map hg) b1 b2 (by omega) w), ?_, h⟩
            rw [add_if _ _ _ _ (fun _ => by simp)]
            exact .d (.e hq)
          | sl gg hq hb hn hlen hc hd' =>
            rename_i bk off cap
            have d1 : g ≤ (cap : Int) := by omega
            refine ⟨_, _, fun w => run_cut hu hT _ n cap _ _ none _ _ cap w (run_bounds E.P true n cap _ _ l g (lo_map hl) (hi_map hg) b1 b2 d1 w), ?_, h⟩
            by_cases hcl : cap = l.toNat
            · rw [if_pos hcl]
              refine .d (.sl gg hq hb (by omega) (fun i hi => absurd hi (by omega)) (fun i k hi => absurd hi (by omega)) (fun i k d hi => absurd hi (by omega)))
            · rw [if_neg hcl]
              simp only [Option.map_some, Addr.add_at]
              refine .d (.sl (fun i => gg (l.toNat + i)) hq hb (by omega) (fun i hi => hlen _ (by omega)) (fun i k hi hk => ?_) (fun i k d hi hk => hd' _ _ _ (by omega) hk))
              rw [← hc (l.toNat + i) k (by omega) hk, Nat.add_mul]
              congr 2; omega
        · exact h.elim
      · rename_i e c off n q sz hd
        rw [hd] at hu
        split at h
        · rename_i te hte
          cases hz : Nat.beq sz te.size with
          | false => rw [hz] at h; exact h.elim
          | true =>
          rw [hz] at h
          have hz' := Nat.eq_of_beq_eq_true hz
          subst hz'
          simp only [cond_true] at h
          obtain ⟨l, h, hl⟩ := boundK.out inv h
          obtain ⟨g, h, hg⟩ := boundK.out inv h
          unfold msCut at h
          obtain ⟨⟨b1, b2, b3⟩, h⟩ := h
          have hT := hE.T _ _ hte
          cases hr with | ms hcl hn hm =>
          have d1 : g ≤ ((capOf q ((ρ c).cap - off) : Nat) : Int) := by omega
          have hrun := fun w => run_cut hu hT (some ⟨(ρ c).b, off * te.size, none⟩) n _ _ _ none _ _ _ w (run_bounds E.P true n _ _ _ l g (lo_map hl) (hi_map hg) b1 b2 d1 w)
          cases hq : (decide (l = 0) || decide (l < n)) with
          | true =>
            simp only [hq, cond_true] at h
            refine ⟨_, _, hrun, ?_, h⟩
            have hlt : l = 0 ∨ l < n := by simpa using hq
            rw [add_if _ _ _ _ (fun e => by
              have : l.toNat = 0 := by omega
              rw [this, Nat.zero_mul])]
            have hcap : capOf q ((ρ c).cap - off) - l.toNat = capOf (q.map (· - l.toNat)) ((ρ c).cap - (off + l.toNat)) := by
              cases q with
              | none => simp only [capOf, Option.map_none]; omega
              | some k => simp [capOf]
            rw [← Nat.add_mul, hcap]
            refine .ms hcl ?_ ?_
            · rw [← hcap]; omega
            · rw [← hcap]
              cases q with
              | none => simp only [capOf] at *; omega
              | some k => simp only [capOf] at *; omega
          | false =>
            simp only [hq, cond_false] at h
            refine ⟨_, _, hrun, ?_, h⟩
            have hlt : ¬ (l = 0 ∨ l < n) := by
              intro hh
              have : (decide (l = 0) || decide (l < n)) = true := by simpa using hh
              rw [hq] at this; cases this
            have e0 : g.toNat - l.toNat = 0 := by omega
            rw [e0]
            by_cases hcc : capOf q ((ρ c).cap - off) = l.toNat
            · rw [if_pos hcc]; exact .d (.e (by simp))
            · rw [if_neg hcc]; simp only [Option.map_some, Addr.add_at]; exact .d (.e (by simp))
        · exact h.elim
      · exact h.elim
    · rename_i xo
      split at h
      · rename_i e q n sz f hd
        rw [hd] at hu
        split at h
        · rename_i te hte
          cases hz : Nat.beq sz te.size with
          | false => rw [hz] at h; exact h.elim
          | true =>
          rw [hz] at h
          have hz' := Nat.eq_of_beq_eq_true hz
          subst hz'
          simp only [cond_true] at h
          obtain ⟨l, h, hl⟩ := boundK.out inv h
          obtain ⟨g, h, hg⟩ := boundK.out inv h
          obtain ⟨j, h, hj⟩ := boundK.out inv h
          obtain ⟨⟨b1, b2, b3, b4, b5⟩, h⟩ := h
          have hT := hE.T _ _ hte
          obtain ⟨kg, hkg⟩ := hi_some hg b5
          obtain ⟨kj, hkj⟩ := hi_some hj rfl
          have hbd := fun (cap : Nat) (hc : j ≤ (cap : Int)) (w : World) => run_bounds3 E.P true n cap _ kg kj l g j (lo_map hl) b1 b2 b3 hc w
          rw [hkg, hkj]
          cases hr with | d hr =>
          cases hr with
          | nil hq =>
            have e1 : l = 0 := by omega
            have e2 : g = 0 := by omega
            have e3 : j = 0 := by omega
            subst e1; subst e2; subst e3
            exact ⟨_, _, fun w => run_cut hu hT none 0 0 _ _ _ 0 0 0 w (hbd 0 (by omega) w), .z0 hq, h⟩
          | @e _ _ bk off cap _ hq =>
            have e1 : l = 0 := by omega
            have e2 : g = 0 := by omega
            have e3 : j = 0 := by omega
            subst e1; subst e2; subst e3
            exact ⟨_, _, fun w => run_cut hu hT _ 0 cap _ _ _ 0 0 0 w (hbd cap (by omega) w), .z1 hq, h⟩
          | sl gg hq hb hn hlen hc hd' =>
            rename_i bk off cap
            have hrun := fun w => run_cut hu hT (some ⟨bk, off, none⟩) n cap _ _ _ _ _ _ w (hbd cap (by omega) w)
            cases hlj : decide (l = j) with
            | true =>
              simp only [hlj, cond_true] at h
              refine ⟨_, _, hrun, ?_, h⟩
              have e : l = j := by simpa using hlj
              have e' : g.toNat - l.toNat = 0 := by omega
              subst e
              rw [if_pos rfl, e', Nat.sub_self]
              exact .z1 hq
            | false =>
              simp only [hlj, cond_false] at h
              refine ⟨_, _, hrun, ?_, h⟩
              have e : l ≠ j := by simpa using hlj
              rw [if_neg (by omega)]
              simp only [Option.map_some, Addr.add_at]
              refine .d (.sl (fun i => gg (l.toNat + i)) hq hb (by omega) (fun i hi => hlen _ (by omega)) (fun i k hi hk => ?_) (fun i k d hi hk => hd' _ _ _ (by omega) hk))
              rw [← hc (l.toNat + i) k (by omega) hk, Nat.add_mul]
              congr 2; omega
        · exact h.elim
      · rename_i e c off n q sz hd
        rw [hd] at hu
        split at h
        · rename_i te hte
          cases hz : Nat.beq sz te.size with
          | false => rw [hz] at h; exact h.elim
          | true =>
          rw [hz] at h
          have hz' := Nat.eq_of_beq_eq_true hz
          subst hz'
          simp only [cond_true] at h
          obtain ⟨l, h, hl⟩ := boundK.out inv h
          obtain ⟨g, h, hg⟩ := boundK.out inv h
          obtain ⟨j, h, hj⟩ := boundK.out inv h
          obtain ⟨⟨b1, b2, b3, b4, b5⟩, h⟩ := h
          have hT := hE.T _ _ hte
          obtain ⟨kg, hkg⟩ := hi_some hg b5
          obtain ⟨kj, hkj⟩ := hi_some hj rfl
          rw [hkg, hkj]
          cases hr with | ms hcl hn hm =>
          have hrun := fun w => run_cut hu hT (some ⟨(ρ c).b, off * te.size, none⟩) n _ _ _ _ _ _ _ w (run_bounds3 E.P true n (capOf q ((ρ c).cap - off)) _ kg kj l g j (lo_map hl) b1 b2 b3 (by omega) w)
          cases hlj : decide (l = j) with
          | true =>
            simp only [hlj, cond_true] at h
            refine ⟨_, _, hrun, ?_, h⟩
            have e : l = j := by simpa using hlj
            have e' : g.toNat - l.toNat = 0 := by omega
            subst e
            rw [if_pos rfl, e', Nat.sub_self]
            exact .z1 (by simp)
          | false =>
            simp only [hlj, cond_false] at h
            refine ⟨_, _, hrun, ?_, h⟩
            have e : l ≠ j := by simpa using hlj
            rw [if_neg (by omega)]
            simp only [Option.map_some, Addr.add_at]
            rw [← Nat.add_mul]
            have := RV.ms (ρ := ρ) (N := s.hp.length) (S := S) (w := w) (c := c) (off := off + l.toNat) (n := g.toNat - l.toNat) (sz := te.size) (q := some (j.toNat - l.toNat)) hcl (by simp only [capOf]; omega) (by simp only [capOf]; omega)
            simpa only [capOf] using this
        · exact h.elim
      · exact h.elim
  · exact h.elim

theorem partVC.out {N} {t : TypeId} {v : V} {x : Value} {i : Nat} {k : V → Prop} (hE : E.Ok) (h : partVC E t v i k) (hr : RV ρ N S w v x) :
    ∃ u y, (∀ w, (Instr.field t x i).run E.P w = .ok y w) ∧ RV ρ N S w u y ∧ k u := by
  unfold partVC at h
  split at h
  · rename_i ti hti
    have hu := und_eq hE hti
    split at h
    · rename_i fs vs hd
      rw [hd] at hu
      rw [nth_eq] at h
      split at h
      · rename_i fd hf
        split at h
        · rename_i tf htf
          obtain ⟨h1, h2⟩ := h.out
          obtain ⟨h3, h4⟩ := h2.out
          have hT := hE.T _ _ htf
          have hsz := fun w => hT.size w
          have hagg := fun w => run_isAgg hT.und w
          have hf' : fs[i]? = some fd := by rw [← Array.getElem?_toList]; exact hf
          cases hr with | agg hl hv =>
          rename_i xs
          have hsub : RVs ρ N S w ((vs.drop fd.offset).take tf.size) ((xs.drop fd.offset).take tf.size) := by
            refine ⟨by simp [hl], fun j u v hu hv' => ?_⟩
            rw [List.getElem?_take] at hu hv'
            split at hu
            · rename_i hj
              rw [if_pos hj] at hv'
              rw [List.getElem?_drop] at hu hv'
              exact hv _ _ _ hu hv'
            · simp at hu
          unfold loadK at h4
          cases hq : isAggD tf.desc with
          | true =>
            rw [hq] at h4
            refine ⟨_, .agg ((xs.drop fd.offset).take tf.size).toArray, fun w => ?_, .agg hsub.1 hsub.2, h4⟩
            simp [Instr.field, run_underlying hu, hf', asAgg, part, hagg, hq, hsz]
          | false =>
            rw [hq] at h4
            generalize hus : (vs.drop fd.offset).take tf.size = us at h4 hsub
            match us, h4, hsub with
            | [u], h4, hsub =>
              obtain ⟨y, ys, e, g1, g2⟩ := hsub.cons_eq
              refine ⟨u, y, fun w => ?_, g1, h4⟩
              have : xs[fd.offset]? = some y := by
                have := congrArg (·[0]?) e
                simp only [List.getElem?_take, List.getElem?_drop, List.getElem?_cons_zero] at this
                split at this
                · simpa using this
                · simp at this
              simp [Instr.field, run_underlying hu, hf', asAgg, part, hagg, hq, this]
        · exact h.elim
      · exact h.elim
    · exact h.elim
  · exact h.elim

theorem silVC.out {o : Oper} {k : V → Prop} (hE : E.Ok) (inv : Inv E nt w0 S0 W0 m ρ0 ρ S w s a) (h : silVC E o.op s k) : SilOk E ρ S s a w o k := by
  unfold silVC at h
  split at h
  · rename_i x ho
    obtain ⟨v, hr, h⟩ := h.out inv
    exact ⟨_, v, fun w' _ => by simp [execOp, ho], hr, h⟩
  · rename_i x ho
    obtain ⟨v, hr, h⟩ := h.out inv
    exact ⟨_, v, fun w' _ => by simp [execOp, ho], hr, h⟩
  · rename_i c x y ho
    obtain ⟨v, hr, h⟩ := h.out inv
    obtain ⟨t, ht, h⟩ := h.out hr
    rcases h.out with ⟨rfl, g⟩ | ⟨rfl, g⟩
    · obtain ⟨u, hu, g⟩ := g.out inv
      exact ⟨_, u, fun w' _ => by simp [execOp, ho, ht, asBool], hu, g⟩
    · obtain ⟨u, hu, g⟩ := g.out inv
      exact ⟨_, u, fun w' _ => by simp [execOp, ho, ht, asBool], hu, g⟩
  · rename_i op t x y yt ho
    obtain ⟨u, hu, h⟩ := h.out inv
    obtain ⟨v, hv, h⟩ := h.out inv
    obtain ⟨z, h1, h2, h3, h4, h5⟩ := binVC.out hE h hu hv
    refine ⟨z, _, fun w' _ => ?_, .d (.v h2), h5⟩
    simp [execOp, ho, eqGuard_plain E.P op t x y _ _ w' h4 h3, h1]
  · rename_i op t x ho
    obtain ⟨u, hu, h⟩ := h.out inv
    obtain ⟨z, h1, h2, h3⟩ := h.out hu E.P
    exact ⟨z, _, fun w' _ => by simp [execOp, ho, h1], .d (.v h2), h3⟩
  · rename_i t x ho
    obtain ⟨p, hp, h⟩ := h.out inv
    obtain ⟨v, y, h1, h2, h3⟩ := h.out hE inv hp
    exact ⟨y, v, fun w' hw => by simp [execOp, ho, h1 w' (hw (by simp [isLd, ho]))], h2, h3⟩
  · rename_i t x f ho
    obtain ⟨p, hp, h⟩ := h.out inv
    obtain ⟨v, y, h1, h2, h3⟩ := fieldVC.out hE h hp
    exact ⟨y, v, fun w' _ => by simp [execOp, ho, h1], h2, h3⟩
  · rename_i t x i ho
    obtain ⟨p, hp, h⟩ := h.out inv
    obtain ⟨j, hj, h⟩ := h.out inv
    obtain ⟨v, y, h1, h2, h3⟩ := indexVC.out hE h hp hj
    exact ⟨y, v, fun w' _ => by simp [execOp, ho, h1], h2, h3⟩
  · rename_i t x i ho
    obtain ⟨p, hp, g⟩ := h.out inv
    clear h
    obtain ⟨j, hj, h⟩ := g.out inv
    clear g
    unfold strIndexVC at h
    split at h
    · rename_i ti hti
      have hu := und_eq hE hti
      split at h
      · rename_i b hd
        rw [hd] at hu
        obtain ⟨q, n, hjx, ⟨h1, h2⟩, h3⟩ := h.out hj
        have hb := RV.scalar hp
        have hlt : n.toNat < b.size := by omega
        refine ⟨.int .u8 ((b.data.toList.getD n.toNat 0).toNat), _, fun w' _ => ?_, .d (.v rfl), h3⟩
        have e : b[n.toNat]? = some (b.data.toList.getD n.toNat 0) := by
          rw [getElem?_pos b n.toNat hlt]
          congr 1
          have : n.toNat < b.data.toList.length := by simpa using hlt
          rw [List.getD_eq_getElem?_getD, List.getElem?_eq_getElem this]
          rfl
        simp [execOp, ho, hjx, ← hb, Instr.index, asIntOf, run_underlying hu, h1, e]
      · exact h.elim
    · exact h.elim
  · rename_i t x i ho
    obtain ⟨v, hv, h⟩ := h.out inv
    obtain ⟨u, y, h1, h2, h3⟩ := partVC.out hE h hv
    exact ⟨y, u, fun w' _ => by simp [execOp, ho, h1], h2, h3⟩
  · rename_i t x lo hi mx ho
    obtain ⟨v, hv, h⟩ := h.out inv
    obtain ⟨u, y, h1, h2, h3⟩ := sliceVC.out hE inv h hv
    exact ⟨y, u, fun w' _ => by simp [execOp, ho, h1], h2, h3⟩
  · rename_i x i ho
    obtain ⟨v, hv, h⟩ := h.out inv
    obtain ⟨u, y, h1, h2, h3⟩ := h.out hv E.P
    exact ⟨y, u, fun w' _ => by simp [execOp, ho, h1], h2, h3⟩
  · rename_i x ho
    obtain ⟨v, hv, h⟩ := h.out inv
    unfold nilCheckVC at h
    split at h
    · have hv' := hv
      generalize hx : a.eval x = y at hv hv'
      cases hv with | loc hc => exact ⟨_, _, fun w' _ => by simp [execOp, ho, hx], hv', h⟩
    · have hv' := hv
      generalize hx : a.eval x = y at hv hv'
      cases hv with | pp g h1 h2 h3 => exact ⟨_, _, fun w' _ => by simp [execOp, ho, hx], hv', h⟩
    · have hv' := hv
      generalize hx : a.eval x = y at hv hv'
      cases hv with | re hc => exact ⟨_, _, fun w' _ => by simp [execOp, ho, hx], hv', h⟩
    · exact h.elim
  · rename_i src dst x ho
    obtain ⟨v, hv, h⟩ := h.out inv
    unfold convVC at h
    split at h
    · rename_i ts td hs hd
      have hus := und_eq hE hs
      have hud := und_eq hE hd
      split at h
      · rename_i q q' n hq
        rw [hq] at hud
        have := RV.scalar hv
        refine ⟨.int q (q.wrap n), _, fun w' _ => ?_, .d (.v rfl), h⟩
        simp [execOp, ho, convert, run_underlying hus, run_underlying hud, ← this, Conv.intToInt]
      · rename_i b hq
        rw [hq] at hud
        have := RV.scalar hv
        refine ⟨.string b, _, fun w' _ => ?_, .d (.v rfl), h⟩
        simp [execOp, ho, convert, run_underlying hus, run_underlying hud, ← this]
      · exact h.elim
    · exact h.elim
  · rename_i f first caps ho
    obtain ⟨us, hus, h⟩ := h.out inv
    obtain ⟨vs, hvs, h⟩ := h.out inv
    refine ⟨.func (.func f) (first.toList.map a.eval).toArray (caps.toList.map a.eval).toArray, _, fun w' _ => ?_, .fn hus.1 hus.2 hvs.1 hvs.2, h⟩
    simp [execOp, ho, Instr.makeFunc]
    constructor <;> (apply Array.ext'; simp)
  · rename_i c ho
    split at h
    · rename_i b hb
      split at h
      · rename_i t x hts hxs
        obtain ⟨v, hv, h⟩ := h.out inv
        have hargs : c.args = #[x] := by rw [← Array.toList_inj]; simpa using hxs
        have htys : c.argTypes = #[t] := by rw [← Array.toList_inj]; simpa using hts
        unfold lenVC at h
        split at h
        · rename_i ti hti
          have hu := und_eq hE hti
          split at h
          · rename_i e q n sz f hd
            rw [hd] at hu
            refine ⟨.int .i64 n, _, fun w' _ => ?_, .d (.v rfl), h⟩
            generalize hx : a.eval x = y at hv
            cases hv with | d hv => cases hv <;> simp [execOp, ho, hb, hargs, htys, hx, resolve, invoke, builtin, Builtin.len_, run_underlying hu, goInt]
          · rename_i e c off n cap sz hd
            rw [hd] at hu
            refine ⟨.int .i64 n, _, fun w' _ => ?_, .d (.v rfl), h⟩
            generalize hx : a.eval x = y at hv
            cases hv with | ms _ _ _ => simp [execOp, ho, hb, hargs, htys, hx, resolve, invoke, builtin, Builtin.len_, run_underlying hu, goInt]
          · rename_i e q hd
            rw [hd] at hu
            refine ⟨.int .i64 0, _, fun w' _ => ?_, .d (.v rfl), h⟩
            generalize hx : a.eval x = y at hv
            cases hv <;> simp [execOp, ho, hb, hargs, htys, hx, resolve, invoke, builtin, Builtin.len_, run_underlying hu, goInt]
          · rename_i b hd
            rw [hd] at hu
            refine ⟨.int .i64 b.size, _, fun w' _ => ?_, .d (.v rfl), h⟩
            have hx := RV.scalar hv
            simp [execOp, ho, hb, hargs, htys, ← hx, resolve, invoke, builtin, Builtin.len_, run_underlying hu, goInt]
          · exact h.elim
        · exact h.elim
      · rename_i x y hxs
        obtain ⟨u, hu, h⟩ := h.out inv
        obtain ⟨v, hv, h⟩ := h.out inv
        have hargs : c.args = #[x, y] := by rw [← Array.toList_inj]; simpa using hxs
        unfold minmaxVC at h
        split at h
        · have e1 := RV.scalar hu; have e2 := RV.scalar hv
          exact ⟨_, _, fun w' _ => by simp [execOp, ho, hb, hargs, ← e1, ← e2, resolve, invoke, builtin, Builtin.min_, Builtin.min2], .d (.v rfl), h⟩
        · have e1 := RV.scalar hu; have e2 := RV.scalar hv
          exact ⟨_, _, fun w' _ => by simp [execOp, ho, hb, hargs, ← e1, ← e2, resolve, invoke, builtin, Builtin.max_, Builtin.max2], .d (.v rfl), h⟩
        · exact h.elim
      · exact h.elim
    · exact h.elim
  · exact h.elim

/-! ### calls -/
/-- The function has a body, and it is entered. -/
structure FOk (P : Program) (f : FuncId) : Prop where
  ent : ∃ fn, P.funcs[f]? = some fn ∧ (fn.name == "runtime.NumGoroutine") = false ∧ fn.body.isNone = false

theorem FOk.run {P : Program} {f : FuncId} (h : FOk P f) (args : Array Value) (w : World) : (callFunc f args).run P w = .ok (.enter f args) w := by
  obtain ⟨fn, h1, h2, h3⟩ := h.ent
  unfold callFunc
  simp only [Sem.run_bind, run_program, Result.andThen_ok, h1, h2, h3, Bool.false_eq_true, if_false]
  rfl

/-- What a call is held to where a state goes on, whatever the world: of what stood, only the chunks T may be changed. -/
def CallVCF (E : Env) (f : FuncId) (args : List V) (s : St) (T : List Nat) (k : V → St → Prop) : Prop :=
  FOk E.P f ∧ ∀ (nt : Nat) (w0 : World) (S0 W0 : Nat → Prop) (m : Nat) (ρ0 ρ : Nat → Bk) (S : Nat → Prop) (w : World) (a : Act) (xs : List Value),
    Inv E nt w0 S0 W0 m ρ0 ρ S w s a → RVs ρ s.hp.length S w args xs →
    Calls E.P f xs.toArray w fun e w' => ∃ x v s' ρ' S', e = .returned x ∧ Inv E nt w0 S0 W0 m ρ0 ρ' S' w' s' a ∧ RV ρ' s'.hp.length S' w' v x ∧ k v s' ∧
      (∀ b, b < w.heap.size → (∀ c ∈ T, b ≠ (ρ c).b) → w'.heap[b]? = w.heap[b]?) ∧ ∀ c, c < s.hp.length → ρ' c = ρ c
def CallVC (E : Env) (f : FuncId) (args : List V) (s : St) (k : V → St → Prop) : Prop := ∃ T, CallVCF E f args s T k

def appK {α : Type} : List α → List α → (List α → Prop) → Prop
  | [], r, k => k r
  | x :: l, r, k => appK l r fun q => k (x :: q)
theorem appK.out {α : Type} : ∀ {l r : List α} {k : List α → Prop}, appK l r k → k (l ++ r)
  | [], _, _, h => h
  | x :: l, _, k, h => appK.out (l := l) (k := fun q => k (x :: q)) h

def callK (E : Env) (s : St) (fv : V) (vs : List V) (k : V → St → Prop) : Prop := match fv with
  | .fn f first caps => appK first vs fun l => appK l caps fun r => CallVC E f r s k
  | _ => False

/-! ### what stirs the world -/
def effVC (E : Env) (o : Op) (s : St) (k : V → St → Prop) : Prop := match o with
  | .store t x y => evK E s x fun p => evK E s y fun v => noTup v (flatK v (storeVC E t s p v fun s' => k (.tup []) s'))
  | .alloc t => allocVC E t s k
  | .box t x => evK E s x fun v => noTup v (flatK v (boxVC t s v k))
  | .makeSlice t l c => evK E s l fun u => evK E s c fun v => makeVC E t s u v k
  | .call c => match c.callee with
    | .value fo => evK E s fo fun fv => evsK E s c.args.toList fun vs => callK E s fv vs k
    | .builtin .append => evsK E s c.args.toList fun vs => match vs with
      | [v, u] => appendVC E c.argTypes.toList v u s k
      | _ => False
    | .builtin .copy => evsK E s c.args.toList fun vs => match vs with
      | [v, u] => copyVC E c.argTypes.toList v u s k
      | _ => False
    | _ => False
  | _ => False

def opVC (E : Env) (o : Op) (s : St) (k : V → St → Prop) : Prop := bif isSil o then silVC E o s (fun v => k v s) else effVC E o s k

theorem callK.out {o : Oper} {c : Call} {fo : Operand} {fv : V} {vs : List V} {k : V → St → Prop} {Q : Exit → Act → World → Prop} (inv : Inv E nt w0 S0 W0 m ρ0 ρ S w s a)
    (h : callK E s fv vs k) (hfv : RV ρ s.hp.length S w fv (a.eval fo)) (hvs : RVs ρ s.hp.length S w vs (c.args.toList.map a.eval)) (ho : o.op = .call c) (hc : c.callee = .value fo) :
    o.wp E.P a w (Gives E nt w0 S0 W0 m ρ0 a o.dst k) Q := by
  unfold callK at h
  split at h
  · rename_i f first caps
    have h := appK.out (appK.out h)
    generalize hx : a.eval fo = y at hfv
    cases hfv with | fn h1 h2 h3 h4 =>
    rename_i xs ys
    have hr := RVs.app (RVs.app ⟨h1, h2⟩ hvs) ⟨h3, h4⟩
    obtain ⟨T, h⟩ := h
    have hcall := h.2 nt w0 S0 W0 m ρ0 ρ S w a _ inv hr
    unfold Oper.wp
    have hrun : (execOp a.eval o).run E.P w = .ok (.enter f (xs ++ c.args.toList.map a.eval ++ ys).toArray) w := by
      simp [execOp, ho, resolve, hc, hx, Deferred.ofValue, invoke, h.1.run]
    rw [hrun, Oper.upon_enter]
    refine hcall.mono ?_
    rintro e w' ⟨x, v, s', ρ', S', rfl, g1, g2, g3, _⟩
    exact ⟨x, v, s', ρ', S', rfl, g1, g2, g3⟩
  · exact h.elim

theorem effVC.out {o : Oper} {k : V → St → Prop} {Q : Exit → Act → World → Prop} (hE : E.Ok) (inv : Inv E nt w0 S0 W0 m ρ0 ρ S w s a) (h : effVC E o.op s k) :
    o.wp E.P a w (Gives E nt w0 S0 W0 m ρ0 a o.dst k) Q := by
  unfold effVC at h
  split at h
  · rename_i t x y ho
    obtain ⟨p, hp, h⟩ := h.out inv
    obtain ⟨v, hv, h⟩ := h.out inv
    obtain ⟨hne, h⟩ := h.out
    obtain ⟨hfl, h⟩ := h.out hv hne
    obtain ⟨w', s', h1, h2, h3⟩ := h.out hE inv hp hv hfl
    refine wp_skp (w' := w') (by simp [execOp, ho, h1]) ⟨undef, .tup [], s', ρ, S, rfl, h2, ?_, h3⟩
    exact .tup (xs := []) rfl (fun k a b h => by simp at h)
  · rename_i t ho
    obtain ⟨x, w', ρ', s', v, h1, h2, h3, h4⟩ := h.out hE inv
    exact wp_val (x := x) (w' := w') (by simp [execOp, ho, h1]) ⟨x, v, s', ρ', S, rfl, h2, h3, h4⟩
  · rename_i t x ho
    obtain ⟨v, hv, h⟩ := h.out inv
    obtain ⟨hne, h⟩ := h.out
    obtain ⟨hfl, h⟩ := h.out hv hne
    obtain ⟨x, w', ρ', s', v, h1, h2, h3, h4⟩ := h.out (E := E) inv hv hfl
    exact wp_val (x := x) (w' := w') (by simp [execOp, ho, h1]) ⟨x, v, s', ρ', S, rfl, h2, h3, h4⟩
  · rename_i t l c ho
    obtain ⟨u, hu, h⟩ := h.out inv
    obtain ⟨v, hv, h⟩ := h.out inv
    obtain ⟨x, w', ρ', s', v, h1, h2, h3, h4⟩ := h.out hE inv hu hv
    exact wp_val (x := x) (w' := w') (by simp [execOp, ho, h1]) ⟨x, v, s', ρ', S, rfl, h2, h3, h4⟩
  · rename_i c ho
    split at h
    · rename_i fo hc
      obtain ⟨fv, hfv, h⟩ := h.out inv
      obtain ⟨vs, hvs, h⟩ := h.out inv
      exact h.out inv hfv hvs ho hc
    · rename_i hb
      obtain ⟨vs, hvs, h⟩ := h.out inv
      split at h
      · rename_i v u
        obtain ⟨y, ys, hy, hv, hvs⟩ := hvs.cons_eq
        obtain ⟨y', ys', hy', hv', hnil⟩ := hvs.cons_eq
        rw [hy', hnil.nil_eq] at hy
        have hargs : c.args.map a.eval = #[y, y'] := by rw [← Array.toList_inj]; simpa using hy
        obtain ⟨z, w', ρ', s', v', h1, h2, h3, h4⟩ := appendVC.out o.type hE inv h hv hv'
        refine wp_val (x := z) (w' := w') ?_ ⟨z, v', s', ρ', S, rfl, h2, h3, h4⟩
        simp only [Array.toArray_toList] at h1
        simp [execOp, ho, hb, hargs, resolve, invoke, builtin, h1]
      · exact h.elim
    · rename_i hb
      obtain ⟨vs, hvs, h⟩ := h.out inv
      split at h
      · rename_i v u
        obtain ⟨y, ys, hy, hv, hvs⟩ := hvs.cons_eq
        obtain ⟨y', ys', hy', hv', hnil⟩ := hvs.cons_eq
        rw [hy', hnil.nil_eq] at hy
        have hargs : c.args.map a.eval = #[y, y'] := by rw [← Array.toList_inj]; simpa using hy
        obtain ⟨z, w', s', v', h1, h2, h3, h4⟩ := copyVC.out o.type hE inv h hv hv'
        refine wp_val (x := z) (w' := w') ?_ ⟨z, v', s', ρ, S, rfl, h2, h3, h4⟩
        simp only [Array.toArray_toList] at h1
        simp [execOp, ho, hb, hargs, resolve, invoke, builtin, h1]
      · exact h.elim
    · exact h.elim
  · exact h.elim

theorem opVC.out {o : Oper} {k : V → St → Prop} {Q : Exit → Act → World → Prop} (hE : E.Ok) (inv : Inv E nt w0 S0 W0 m ρ0 ρ S w s a) (h : opVC E o.op s k) :
    o.wp E.P a w (Gives E nt w0 S0 W0 m ρ0 a o.dst k) Q := by
  unfold opVC at h
  cases hs : isSil o.op with
  | true =>
    rw [hs] at h
    obtain ⟨x, v, h1, h2, h3⟩ := silVC.out hE inv h
    exact wp_val (h1 w (fun _ _ _ => rfl)) (gives_same inv h2 h3)
  | false => rw [hs] at h; exact effVC.out hE inv h

end
end Go.E
