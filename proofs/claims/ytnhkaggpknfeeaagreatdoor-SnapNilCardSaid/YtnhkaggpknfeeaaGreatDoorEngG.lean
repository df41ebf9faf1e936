/-
  THE ENGINE, PART G: the evaluator: code; functions; that it tells the truth.
-/
import Derived.Test.YtnhkaggpknfeeaaGreatDoorEngS
import Derived.LoopNIn
import Derived.Scope
import Derived.RangeFuncRecord
namespace Go.E
open Go
noncomputable section

inductive X where
  | normal
  | exit (id : Nat)
  | ret

def X.exit? : X → Exit
  | .normal => .normal
  | .exit i => .exit i
  | .ret => .ret


section
variable {E : Env} {nt : Nat} {w0 : World} {S0 W0 : Nat → Prop} {m : Nat} {ρ0 ρ : Nat → Bk} {S : Nat → Prop} {w w' : World} {s : St} {a : Act} {es es' : ES}

/-- The draw of an order is no part of what a state means. -/
theorem Inv.drawn (inv : Inv E nt w0 S0 W0 m ρ0 ρ S w s a) (n : Nat) : Inv E nt w0 S0 W0 m ρ0 ρ S { w with drawn := n } s a where
  slots := fun i v hv => by
    obtain ⟨x, h1, h2⟩ := inv.slots i v hv
    exact ⟨x, h1, RV.mono (w := w) (w' := { w with drawn := n }) (Nat.le_refl _) (fun _ _ => rfl) (fun _ h => h) (fun _ _ => rfl) h2⟩
  heap := ⟨fun c ch hc => HC.mono (w := w) (w' := { w with drawn := n }) (Nat.le_refl _) (fun _ _ => rfl) (fun _ h => h) (fun _ _ => rfl) rfl rfl (inv.heap.at_ c ch hc), inv.heap.out, inv.heap.inj, inv.heap.old⟩
  hist := ⟨inv.hist.os, inv.hist.tape, inv.hist.output, inv.hist.size, inv.hist.blk, inv.hist.per⟩
  par := inv.par
  le := inv.le
  keep := inv.keep
  new := inv.new
  glob := fun g ds hg => RV.mono (ρ := ρ) (N := 0) (w := w) (w' := { w with drawn := n }) (Nat.le_refl _) (fun _ _ => rfl) (fun _ h => h) (fun _ _ => rfl) (inv.glob g ds hg)
  defers := RDf.mono (w := w) (w' := { w with drawn := n }) (Nat.le_refl _) (fun _ _ => rfl) (fun _ h => h) (fun _ _ => rfl) inv.defers
  nt := inv.nt

/-- What a body's results are. -/
def retsK (E : Env) (s : St) : List ResultVar → (List V → Prop) → Prop
  | [], k => k []
  | .tmp t :: r, k => match look t s.slots with
    | some v => retsK E s r fun l => k (v :: l)
    | none => False
  | .cell p t :: r, k => match look p s.slots with
    | some v => loadVC E t s v fun u => retsK E s r fun l => k (u :: l)
    | none => False

def resRun (tmps : Array Value) : ResultVar → Sem Value
  | .tmp t => pure (tmps.getD t undef)
  | .cell a t => do loadVar t (← asAddr (tmps.getD a undef))

theorem retsK.out (hE : E.Ok) : ∀ {rs : List ResultVar} {k : List V → Prop}, retsK E s rs k → Inv E nt w0 S0 W0 m ρ0 ρ S w s a →
    ∃ vs xs, RVs ρ s.hp.length S w vs xs ∧ vs.length = rs.length ∧ (∀ (i : Nat) (r : ResultVar) (x : Value), rs[i]? = some r → xs[i]? = some x → (resRun a.tmps r).run E.P w = .ok x w) ∧ k vs
  | [], k, h, inv => ⟨[], [], .nil, rfl, fun i r x h => by simp at h, h⟩
  | .tmp t :: rs, k, h, inv => by
    simp only [retsK] at h
    split at h
    · rename_i v hv
      obtain ⟨x, hx, hr⟩ := inv.slots _ _ hv
      obtain ⟨vs, xs, h1, hl, h2, h3⟩ := retsK.out hE h inv
      refine ⟨v :: vs, x :: xs, .cons hr h1, by simp [hl], fun i r y hi hy => ?_, h3⟩
      cases i with
      | zero => simp at hi hy; subst hi; subst hy; simp [resRun, Array.getD_eq_getD_getElem?, hx]
      | succ i => exact h2 i r y (by simpa using hi) (by simpa using hy)
    · exact h.elim
  | .cell p t :: rs, k, h, inv => by
    simp only [retsK] at h
    split at h
    · rename_i v hv
      obtain ⟨x, hx, hr⟩ := inv.slots _ _ hv
      obtain ⟨u, y, g0, g2, g3⟩ := loadVC.out hE inv h hr
      have g1 := g0 w (fun _ _ => rfl)
      obtain ⟨vs, xs, h1, hl, h2, h3⟩ := retsK.out hE g3 inv
      refine ⟨u :: vs, y :: xs, .cons g2 h1, by simp [hl], fun i r z hi hz => ?_, h3⟩
      cases i with
      | zero =>
        simp at hi hz; subst hi; subst hz
        have hp : ∃ ad, x = .pointer (some ad) := by
          cases x with
          | pointer q => cases q with
            | some ad => exact ⟨ad, rfl⟩
            | none => simp [Instr.loadAt, Instr.sureAddr, stuck, Sem.run] at g1
          | _ => simp [Instr.loadAt, Instr.sureAddr, stuck, Sem.run] at g1
        obtain ⟨ad, rfl⟩ := hp
        have g1' : (loadVar t ad).run E.P w = .ok y w := by simpa [Instr.loadAt, Instr.sureAddr] using g1
        simp [resRun, Array.getD_eq_getD_getElem?, hx, asAddr, g1']
      | succ i => exact h2 i r z (by simpa using hi) (by simpa using hz)
    · exact h.elim

def tupV : List V → V
  | [v] => v
  | vs => .tup vs
def tupX : List Value → Value
  | [x] => x
  | xs => .tuple xs.toArray

theorem tup_rv {N} {vs : List V} {xs : List Value} (h : RVs ρ N S w vs xs) : RV ρ N S w (tupV vs) (tupX xs) := by
  match vs, xs, h with
  | [], [], h => exact .tup h.1 h.2
  | [v], [x], h => exact h.head
  | [], _ :: _, h => simp [RVs] at h
  | _ :: _, [], h => simp [RVs] at h
  | [_], _ :: _ :: _, h => simp [RVs] at h
  | _ :: _ :: _, [_], h => simp [RVs] at h
  | _ :: _ :: _, _ :: _ :: _, h => exact .tup h.1 h.2

theorem results_run {P : Program} {fn : Func} {rs : List ResultVar} {tmps : Array Value} {xs : List Value} {w : World} (hr : fn.results = rs.toArray) (hl : rs.length ≤ 4) (hx : xs.length = rs.length)
    (h : ∀ (i : Nat) r x, rs[i]? = some r → xs[i]? = some x → (resRun tmps r).run P w = .ok x w) : (results fn tmps).run P w = .ok (tupX xs) w := by
  have e : results fn tmps = (do let vs ← fn.results.mapM (resRun tmps); pure (if h : vs.size = 1 then vs[0] else .tuple vs)) := by
    unfold results
    congr 1
  rw [e, hr]
  match rs, xs, hl, hx, h with
  | [], [], _, _, _ => simp [tupX]
  | [r], [x], _, _, h => have h0 := h 0 r x rfl rfl; simp [tupX, h0]
  | [r, q], [x, y], _, _, h => have h0 := h 0 r x rfl rfl; have h1 := h 1 q y rfl rfl; simp [tupX, h0, h1]
  | [r, q, p], [x, y, z], _, _, h => have h0 := h 0 r x rfl rfl; have h1 := h 1 q y rfl rfl; have h2 := h 2 p z rfl rfl; simp [tupX, h0, h1, h2]
  | [r, q, p, o], [x, y, z, u], _, _, h =>
    have h0 := h 0 r x rfl rfl; have h1 := h 1 q y rfl rfl; have h2 := h 2 p z rfl rfl; have h3 := h 3 o u rfl rfl
    simp [tupX, h0, h1, h2, h3]
  | _ :: _ :: _ :: _ :: _ :: _, _, hl, _, _ => simp at hl


/-! ### code -/
def loopE (body : ES → Option (X × ES)) : Nat → ES → Option (X × ES)
  | 0, _ => none
  | n + 1, es => match body es with
    | some (.normal, es') => loopE body n es'
    | some (.exit i, es') => some (.exit i, es')
    | some (.ret, es') => some (.ret, es')
    | none => none

def normK (r : Option ES) : Option (X × ES) := match r with
  | some es' => some (.normal, es')
  | none => none
def normK2 (r : Option (ES × List (Nat × Nat × Nat))) : Option (X × ES) := match r with
  | some (es', _) => some (.normal, es')
  | none => none
def seqK (r : Option (X × ES)) (k : ES → Option (X × ES)) : Option (X × ES) := match r with
    | some (.normal, es') => k es'
    | some (.exit i, es') => some (.exit i, es')
    | some (.ret, es') => some (.ret, es')
    | none => none
def condK (r : Option V) (x y : Option (X × ES)) : Option (X × ES) := match r with
    | some v => match boolE v with
      | some true => x
      | some false => y
      | none => none
    | none => none
def blockK (id : Nat) (r : Option (X × ES)) : Option (X × ES) := match r with
    | some (.normal, es') => some (.normal, es')
    | some (.exit i, es') => bif Nat.beq i id then some (.normal, es') else some (.exit i, es')
    | some (.ret, es') => some (.ret, es')
    | none => none
/-- In a round the schedules are looked at as they are used. -/
def regionK (E : Env) (nt : Nat) (call : CallF) (fk : Option FuncId) (T : Tr (Option Pre)) (id : Nat) (ops : Array Oper) (draw : Bool) (es : ES) : Option (X × ES) := match draw with
  | false => match fk with
    | some _ => normK (regE E nt call ops.toList ops.toList es)
    | none => bif ops.toList.all (fun o => noDefer o.op) then normK (regE E nt call ops.toList ops.toList es) else none
  | true => match T.get none id with
    | some p => match fk with
      | some _ => normK2 (runO E nt call ops.toList es (toSch ops.toList p))
      | none => bif ops.toList.all (fun o => noDefer o.op) && (Region.noSelect ops && goodP ops p) then normK2 (runO E nt call ops.toList es (toSch ops.toList p)) else none
    | none => none
/-- Where a round's jump leads. -/
def jumpK (es : ES) : Option Code → Option (X × ES)
  | none => some (.normal, es)
  | some .ret => some (.ret, es)
  | some (.exit i) => some (.exit i, es)
  | some _ => none
/-- Behind the one call of a range over a function. -/
def rangeK2 (c : Nat) (es : ES) : Option (V × HS × Bool) → Option (X × ES)
  | some (_, h, _) => match getC h c with
    | some (.lp rb st pend sl dq) => match st with
      | .busy => none
      | _ => match setC h c (some (.lp rb .exhausted pend sl dq)) with
        | some h' => match setC h' c none with
          | some h2 => jumpK { es with h := h2 } pend
          | none => none
        | none => none
    | _ => none
  | none => none
def rangeK (E : Env) (nt : Nat) (call : CallF) (f : FuncId) (ps : Array Tmp) (assign body : Code) (es : ES) : Option V → Option (X × ES)
  | some (.fn g first caps) => match pushC es.h (.dq true) with
    | some h1 => match pushC h1 (.lp ⟨f, nt, ps, assign, body⟩ .ready none es.sl es.h.n) with
      | some h2 => rangeK2 h1.n { es with df := .mark es.h.n :: es.df } (call.fn g (appE first (.yl h1.n :: caps)) h2)
      | none => none
    | none => none
  | _ => none
/-- fk: whose body it is; none: a round's. -/
def codeE (E : Env) (nt : Nat) (call : CallF) (fk : Option FuncId) (fuel : Nat) (T : Tr (Option Pre)) : Code → ES → Option (X × ES)
  | .skip, es => some (.normal, es)
  | .label _, es => some (.normal, es)
  | .region id ops draw, es => regionK E nt call fk T id ops draw es
  | .seq x y, es => seqK (codeE E nt call fk fuel T x es) (codeE E nt call fk fuel T y)
  | .cond c x y, es => condK (evE E nt es c) (codeE E nt call fk fuel T x es) (codeE E nt call fk fuel T y es)
  | .block id c, es => blockK id (codeE E nt call fk fuel T c es)
  | .loop c, es => loopE (codeE E nt call fk fuel T c) fuel es
  | .exit id, es => some (.exit id, es)
  | .ret, es => some (.ret, es)
  | .scope c, es => codeE E nt call fk fuel T c es
  | .rangeFunc g ps assign body, es => match fk with
    | some f => rangeK E nt call f ps assign body es (evE E nt es g)
    | none => none
  | _, _ => none
/-- The schedules at hand are good ones. -/
def drawsOk (T : Tr (Option Pre)) : Code → Bool
  | .region id ops draw => match draw with
    | true => match T.get none id with
      | some p => Region.noSelect ops && goodP ops p
      | none => true
    | false => true
  | .seq x y => drawsOk T x && drawsOk T y
  | .cond _ x y => drawsOk T x && drawsOk T y
  | .block _ c => drawsOk T c
  | .loop c => drawsOk T c
  | .scope c => drawsOk T c
  | _ => true

def Mode (fk : Option FuncId) (ro : Option Nat) (T : Tr (Option Pre)) (c : Code) : Prop := match fk with
  | some _ => ro = none ∧ drawsOk T c = true
  | none => True
theorem Mode.both {fk : Option FuncId} {ro : Option Nat} {T : Tr (Option Pre)} {c d e : Code} (h : Mode fk ro T c) (hd : drawsOk T c = true → drawsOk T d = true) : Mode fk ro T d := by
  cases fk with
  | none => trivial
  | some f => exact ⟨h.1, hd h.2⟩

theorem stepR_scope {P : Program} {b : Frame} {a : Act} {k : List Item} {cs : List Frame} {w : World} {c : Code} : step P (lone (b.atR a (.code (.scope c) :: k)) cs w) = .next (lone (b.atR a (.code c :: .inScope c :: k)) cs w) :=
  step_lone_go (by simp [stepG, stepG.exec, Frame.atR])
theorem stepR_inScope {P : Program} {b : Frame} {a : Act} {k : List Item} {cs : List Frame} {w : World} {c : Code} : step P (lone (b.atR a (.inScope c :: k)) cs w) = .next (lone (b.atR a k) cs w) :=
  step_lone_go (by simp [stepG, stepG.exec, Frame.atR])
/-- A scope whose body does not jump by a goto. -/
theorem wpX_scope {F : Fence} {n : Nat} {P : Program} {Q : Exit → Act → World → Prop} {a : Act} {w : World} {c : Code} (h : c.wpIn F n P (Exit.noGoto Q) a w) : (Code.scope c).wpIn F n P Q a w := by
  intro b k cs hro hb hr
  have h0 : (lone (b.atR a (.code (.scope c) :: k)) cs w).fenced P F := fenced_calm hb hr rfl
  obtain ⟨e, a₁, w₁, hq, harr⟩ := h b (.inScope c :: k) cs hro hb hr
  cases e with
  | normal => exact ⟨.normal, a₁, w₁, hq, .head h0 stepR_scope (StepsIn.trans harr (.one (fenced_calm hb hr rfl) stepR_inScope))⟩
  | exit id =>
    have hx : exitTo id (.inScope c :: k) = exitTo id k := by simp [exitTo]
    exact ⟨.exit id, a₁, w₁, hq, fun k' hk => .head h0 stepR_scope (harr.1 k' (by rw [hx]; exact hk)),
      fun hr' hk => let ⟨k₁, h1, h2⟩ := harr.2 hr' (by rw [hx]; exact hk); ⟨k₁, h1, .head h0 stepR_scope h2⟩⟩
  | goto l => exact hq.elim
  | ret => exact ⟨_, a₁, w₁, hq, .of_steps (.one h0 stepR_scope) harr⟩
  | panic ch => exact ⟨_, a₁, w₁, hq, .of_steps (.one h0 stepR_scope) harr⟩
  | outgrown => exact ⟨_, a₁, w₁, hq, .of_steps (.one h0 stepR_scope) harr⟩

theorem pushC.h {es : ES} {h' : HS} {ch : Ch} (e : pushC es.h ch = some h') : (es.st nt).push ch = ({ es with h := h' } : ES).st nt := by
  have := pushC.of e
  show (⟨_, _, _⟩ : St) = ⟨_, _, _⟩
  congr 1
  exact this.symm
theorem setC.h {es : ES} {h' : HS} {c : Nat} {ch : Ch} (e : setC es.h c (some ch) = some h') : ({ es.st nt with hp := (es.st nt).hp.set c (some ch) } : St) = ({ es with h := h' } : ES).st nt := by
  obtain ⟨_, s2⟩ := setC.of e
  show (⟨_, _, _⟩ : St) = ⟨_, _, _⟩
  congr 1
  exact s2.symm
/-- A range's record turns. -/
theorem Inv.lp {c : Nat} {rb : RB} {st st' : LoopState} {pend pend' : Option Code} {sl : Tr (Option V)} {dq : Nat} {h' : HS} (inv : Inv E nt w0 S0 W0 m ρ0 ρ S w (es.st nt) a) (hc : getC es.h c = some (.lp rb st pend sl dq)) (hs : setC es.h c (some (.lp rb st' pend' sl dq)) = some h') :
    ∃ r : Loop, w.heap[(ρ c).b]? = some (.loop r) ∧ r.state = st ∧ r.pending = pend ∧ Inv E nt w0 S0 W0 m ρ0 ρ S (w.putObj (ρ c).b (.loop { r with state := st', pending := pend' })) (({ es with h := h' } : ES).st nt) a := by
  have hc' := getC.of hc
  rw [nth_eq] at hc'
  obtain ⟨fn, tmps, h1, h2, h3⟩ := inv.heap.at_ c _ hc'
  have hlt : (ρ c).b < w.heap.size := (Array.getElem?_eq_some_iff.1 h1).1
  have hoth : ∀ b, b ≠ (ρ c).b → (w.putObj (ρ c).b (.loop { state := st', pending := pend', fn := fn, tmps := tmps, params := rb.params, assign := rb.assign, body := rb.body, defers := (ρ dq).b })).heap[b]? = w.heap[b]? := fun b hb => World.putObj_heap_other hb
  have hS : Same S w (w.putObj (ρ c).b (.loop { state := st', pending := pend', fn := fn, tmps := tmps, params := rb.params, assign := rb.assign, body := rb.body, defers := (ρ dq).b })) := fun b hb => hoth b fun e => inv.heap.out _ _ hc' (e ▸ hb)
  refine ⟨_, h1, rfl, rfl, ?_⟩
  have := inv.turn (w' := w.putObj (ρ c).b (.loop { state := st', pending := pend', fn := fn, tmps := tmps, params := rb.params, assign := rb.assign, body := rb.body, defers := (ρ dq).b })) (ch' := .lp rb st' pend' sl dq) hc' hoth World.putObj_size rfl rfl rfl
    ⟨fn, tmps, World.putObj_heap_same hlt, h2, fun i v hv hi => (by obtain ⟨x, h4, h5⟩ := h3 i v hv hi; exact ⟨x, h4, h5.mono (Nat.le_refl _) (fun _ _ => rfl) (fun _ h => h) hS⟩)⟩
  rw [setC.h hs] at this
  exact this

theorem codeE.out {call : CallF} {fk : Option FuncId} {ro : Option Nat} {fuel : Nat} {T : Tr (Option Pre)} (hE : E.Ok) (hC : CallOk E call) (hM : E.P.follows .mixedOrders = true) : ∀ (c : Code) (_ : Mode fk ro T c) (Q : Exit → Act → World → Prop) (ρ : Nat → Bk) (S : Nat → Prop) (w : World) (es : ES) (a : Act) (e : X) (es' : ES),
    Inv E nt w0 S0 W0 m ρ0 ρ S w (es.st nt) a → codeE E nt call fk fuel T c es = some (e, es') → (∀ ρ S w a, Inv E nt w0 S0 W0 m ρ0 ρ S w (es'.st nt) a → Q e.exit? a w) → c.wpIn (Fw ro) 0 E.P Q a w := by
  intro c
  induction c with
  | skip => intro hT Q ρ S w es a e es' inv h hK; simp only [codeE] at h; have := some_eq h; injection this with e1 e2; subst e1; subst e2; exact wpIn_skip (hK _ _ _ _ inv)
  | label l => intro hT Q ρ S w es a e es' inv h hK; simp only [codeE] at h; have := some_eq h; injection this with e1 e2; subst e1; subst e2; exact wpIn_label (hK _ _ _ _ inv)
  | exit id => intro hT Q ρ S w es a e es' inv h hK; simp only [codeE] at h; have := some_eq h; injection this with e1 e2; subst e1; subst e2; exact wpIn_exit (hK _ _ _ _ inv)
  | ret => intro hT Q ρ S w es a e es' inv h hK; simp only [codeE] at h; have := some_eq h; injection this with e1 e2; subst e1; subst e2; exact wpIn_ret (hK _ _ _ _ inv)
  | region id ops draw =>
    intro hT Q ρ S w es a e es' inv h hK
    simp only [codeE] at h
    have key : deferOk ro ops ∧ (draw = true → ∃ p, T.get none id = some p ∧ (Region.noSelect ops && goodP ops p) = true ∧ normK2 (runO E nt call ops.toList es (toSch ops.toList p)) = some (e, es')) ∧ (draw = false → normK (regE E nt call ops.toList ops.toList es) = some (e, es')) := by
      unfold regionK at h
      cases draw with
      | true =>
        simp only at h
        split at h
        · rename_i p hp
          cases fk with
          | some f =>
            obtain ⟨hro, hT⟩ := hT
            simp only [drawsOk] at hT
            rw [hp] at hT
            exact ⟨.inl hro, fun _ => ⟨p, hp, hT, h⟩, fun e => by cases e⟩
          | none =>
            simp only at h
            cases hb : (ops.toList.all (fun o => noDefer o.op) && (Region.noSelect ops && goodP ops p)) with
            | false => rw [hb] at h; cases h
            | true =>
              rw [hb] at h
              obtain ⟨b1, b2⟩ := Bool.and_eq_true_iff.1 hb
              exact ⟨.of (.inr b1), fun _ => ⟨p, hp, b2, h⟩, fun e => by cases e⟩
        · cases h
      | false =>
        cases fk with
        | some f => exact ⟨.inl hT.1, fun e => (by cases e), fun _ => h⟩
        | none =>
          simp only at h
          cases hb : (ops.toList.all (fun o => noDefer o.op)) with
          | false => rw [hb] at h; cases h
          | true => rw [hb] at h; exact ⟨.of (.inr hb), fun e => (by cases e), fun _ => h⟩
    obtain ⟨hd, k1, k2⟩ := key
    cases draw with
    | true =>
      obtain ⟨p, hp, hT, h⟩ := k1 rfl
      simp only [Bool.and_eq_true] at hT
      unfold normK2 at h
      split at h
      · rename_i es1 t hr
        have := some_eq h
        injection this with e1 e2
        subst e1; subst e2
        unfold runO at hr
        split at hr
        · rename_i sch hsch
          refine wpIn_mono (Q := fun e a w => (∀ c, e ≠ .panic c) ∧ Q e a w) (wp_region_D (n := 3) hd hM ?_) (fun _ _ _ h => h.2)
          exact (comp.out (Q := fun e a w => (∀ c, e ≠ .panic c) ∧ Q e a w) hE hC hT.1 (fun c _ _ _ _ hq => absurd rfl (hq.1 c)) _ _ _ _ _ _ hT.2 hsch _ _ _ _ _ _ _ (inv.drawn _) (Closed.none _) (fun p hp => by simp at hp) hr
            (fun ρ S w a i => ⟨fun c hc => (by cases hc), hK _ _ _ _ i⟩)).1 rfl
        · cases hr
      · cases h
    | false =>
      have h := k2 rfl
      unfold normK at h
      split at h
      · rename_i es1 hr
        have := some_eq h
        injection this with e1 e2
        subst e1; subst e2
        exact wpX_region hd (regE.out hE hC _ _ _ _ _ _ inv hr hK)
      · cases h
  | seq x y ihx ihy =>
    intro hT
    have ihx := ihx (hT.both (e := x) fun h => by simp only [drawsOk, Bool.and_eq_true] at h; exact h.1)
    have ihy := ihy (hT.both (e := x) fun h => by simp only [drawsOk, Bool.and_eq_true] at h; exact h.2)
    intro Q ρ S w es a e es' inv h hK
    simp only [codeE, seqK] at h
    split at h
    · rename_i es1 h1
      exact wpIn_seq (ihx _ ρ S w es a _ es1 inv h1 fun ρ S w a i => ihy _ _ _ _ _ _ _ _ i h hK)
    · rename_i j es1 h1
      have := some_eq h
      injection this with e1 e2
      subst e1; subst e2
      exact wpIn_seq (ihx _ ρ S w es a _ es1 inv h1 fun ρ S w a i => hK _ _ _ _ i)
    · rename_i es1 h1
      have := some_eq h
      injection this with e1 e2
      subst e1; subst e2
      exact wpIn_seq (ihx _ ρ S w es a _ es1 inv h1 fun ρ S w a i => hK _ _ _ _ i)
    · cases h
  | cond c x y ihx ihy =>
    intro hT
    have ihx := ihx (hT.both (e := x) fun h => by simp only [drawsOk, Bool.and_eq_true] at h; exact h.1)
    have ihy := ihy (hT.both (e := x) fun h => by simp only [drawsOk, Bool.and_eq_true] at h; exact h.2)
    intro Q ρ S w es a e es' inv h hK
    simp only [codeE, condK] at h
    split at h
    · rename_i v hv
      have hr := evE.rv inv hv
      split at h
      · rename_i hb
        obtain ⟨t, ht, e⟩ := vbool.out (boolE.of (k := fun q => q = true) hb rfl) hr
        subst e
        exact wpIn_cond_true ht (ihx _ _ _ _ _ _ _ _ inv h hK)
      · rename_i hb
        obtain ⟨t, ht, e⟩ := vbool.out (boolE.of (k := fun q => q = false) hb rfl) hr
        subst e
        exact wpIn_cond_false ht (ihy _ _ _ _ _ _ _ _ inv h hK)
      · cases h
    · cases h
  | block id c ih =>
    intro hT
    have ih := ih (hT.both (e := c) fun h => h)
    intro Q ρ S w es a e es' inv h hK
    simp only [codeE, blockK] at h
    split at h
    · rename_i es1 h1
      have := some_eq h
      injection this with e1 e2
      subst e1; subst e2
      exact wpIn_block (ih _ ρ S w es a _ es1 inv h1 fun ρ S w a i => hK _ _ _ _ i)
    · rename_i j es1 h1
      refine wpIn_block (ih _ ρ S w es a _ es1 inv h1 fun ρ S w a i => ?_)
      simp only [X.exit?, Exit.inBlock]
      cases hb : Nat.beq j id with
      | true =>
        rw [hb] at h
        have := some_eq h
        injection this with e1 e2
        subst e1; subst e2
        rw [if_pos (Nat.eq_of_beq_eq_true hb)]
        exact hK _ _ _ _ i
      | false =>
        rw [hb] at h
        have := some_eq h
        injection this with e1 e2
        subst e1; subst e2
        rw [if_neg (Nat.ne_of_beq_eq_false hb)]
        exact hK _ _ _ _ i
    · rename_i es1 h1
      have := some_eq h
      injection this with e1 e2
      subst e1; subst e2
      exact wpIn_block (ih _ ρ S w es a _ es1 inv h1 fun ρ S w a i => hK _ _ _ _ i)
    · cases h
  | scope c ih =>
    intro hT
    have ih := ih (hT.both (e := c) fun h => h)
    intro Q ρ S w es a e es' inv h hK
    simp only [codeE] at h
    exact wpX_scope (ih _ ρ S w es a _ es' inv h fun ρ S w a i => by cases e <;> exact hK _ _ _ _ i)
  | loop c ih =>
    intro hT
    have ih := ih (hT.both (e := c) fun h => h)
    intro Q ρ S w es a e es' inv h hK
    simp only [codeE] at h
    have key : ∀ (n : Nat) (ρ : Nat → Bk) (S : Nat → Prop) (w : World) (es : ES) (a : Act), Inv E nt w0 S0 W0 m ρ0 ρ S w (es.st nt) a → loopE (codeE E nt call fk fuel T c) n es = some (e, es') → Code.roundsIn (Fw ro) 0 E.P c Q n a w := by
      intro n
      induction n with
      | zero => intro ρ S w es a inv h; simp only [loopE] at h; cases h
      | succ n ihn =>
        intro ρ S w es a inv h
        simp only [loopE] at h
        rw [roundsIn_succ]
        split at h
        · rename_i es1 h1
          exact ih _ ρ S w es a _ es1 inv h1 fun ρ S w a i => ihn _ _ _ _ _ i h
        · rename_i j es1 h1
          have := some_eq h
          injection this with e1 e2
          subst e1; subst e2
          exact ih _ ρ S w es a _ es1 inv h1 fun ρ S w a i => hK _ _ _ _ i
        · rename_i es1 h1
          have := some_eq h
          injection this with e1 e2
          subst e1; subst e2
          exact ih _ ρ S w es a _ es1 inv h1 fun ρ S w a i => hK _ _ _ _ i
        · cases h
    exact wpIn_loop_rounds fuel (key fuel _ _ _ _ _ inv h)
  | rangeFunc g ps assign body =>
    intro hT Q ρ S w es a e es' inv h hK
    simp only [codeE] at h
    cases fk with
    | none => cases h
    | some f =>
    obtain ⟨hro, _⟩ := hT
    subst hro
    simp only at h
    unfold rangeK at h
    split at h
    · rename_i gf first caps hg
      split at h
      · rename_i h1 e1
        split at h
        · rename_i h2 e2
          have hn1 : h1.n = es.h.n + 1 := by
            have := congrArg List.length (pushC.of e1)
            rw [h1.len] at this
            simpa [es.h.len] using this
          unfold rangeK2 at h
          split at h
          · rename_i v h3 nd hcall
            split at h
            · rename_i rb st pend sl dq hg3
              have hst : st ≠ .busy ∧ ∃ h4 h5, setC h3 h1.n (some (.lp rb .exhausted pend sl dq)) = some h4 ∧ setC h4 h1.n none = some h5 ∧ jumpK { es with df := .mark es.h.n :: es.df, h := h5 } pend = some (e, es') := by
                cases st with
                | busy => cases h
                | _ =>
                  simp only at h
                  split at h
                  · rename_i h4 e4
                    split at h
                    · rename_i h5 e5; exact ⟨by simp, h4, h5, e4, e5, h⟩
                    · cases h
                  · cases h
              obtain ⟨hst, h4, h5, e4, e5, hj⟩ := hst
              -- the two blocks
              have hlen : (es.st nt).hp.length = es.h.n := es.h.len
              refine wpIn_rangeFunc fun fn _ => ?_
              have i1 := inv.fresh (o := .deferred (some [])) (cap := 0) (ch := .dq true) (by
                show (w.alloc (.deferred (some []))).heap[(more ρ (es.st nt).hp.length ⟨w.heap.size, 0⟩ (es.st nt).hp.length).b]? = _
                rw [more_new]; exact heap_alloc_new _ _)
              rw [pushC.h e1] at i1
              have hlen1 : (({ es with h := h1 } : ES).st nt).hp.length = es.h.n + 1 := by rw [← hn1]; exact h1.len
              generalize hρ1 : more ρ (es.st nt).hp.length ⟨w.heap.size, 0⟩ = ρ1 at i1
              generalize hw1 : w.alloc (.deferred (some [])) = w1 at i1
              have hb1 : (ρ1 es.h.n).b = w.heap.size := by rw [← hρ1, ← hlen, more_new]
              have hsz1 : w1.heap.size = w.heap.size + 1 := by rw [← hw1]; exact heap_alloc_size _ _
              have i2 := i1.fresh (o := .loop { state := .ready, pending := none, fn := fn, tmps := a.tmps, params := ps, assign := assign, body := body, defers := w.heap.size }) (cap := 0) (ch := .lp ⟨f, nt, ps, assign, body⟩ .ready none es.sl es.h.n) (by
                refine ⟨fn, a.tmps, ?_, ⟨inv.nt, by rw [hlen1]; omega⟩, fun i v hv hi => ?_⟩
                · rw [more_new, more_old (by rw [hlen1]; omega), hb1]; exact heap_alloc_new _ _
                · obtain ⟨x, hx, hr⟩ := i1.slots i v (by rw [ES.look, if_pos hi]; exact hv)
                  exact ⟨x, hx, hr.mono (by omega) (fun c h => more_old h) (fun _ h => h) (fun b hb => heap_alloc_old _ _ (i1.heap.old b hb))⟩)
              rw [pushC.h (es := { es with h := h1 }) e2] at i2
              generalize hρ2 : more ρ1 (({ es with h := h1 } : ES).st nt).hp.length ⟨w1.heap.size, 0⟩ = ρ2 at i2
              have hb2 : (ρ2 h1.n).b = w.heap.size + 1 := by rw [← hρ2, hlen1, hn1, more_new]; exact hsz1
              have hb2' : (ρ2 es.h.n).b = w.heap.size := by rw [← hρ2, more_old (by rw [hlen1]; omega)]; exact hb1
              have hlen2 : (({ es with h := h2 } : ES).st nt).hp.length = es.h.n + 2 := by
                have := congrArg List.length (pushC.of e2)
                have e' : (({ es with h := h2 } : ES).st nt).hp.length = h2.l.length := rfl
                rw [e', this, List.length_append, h1.len, hn1]; rfl
              generalize hw2 : w1.alloc (.loop { state := .ready, pending := none, fn := fn, tmps := a.tmps, params := ps, assign := assign, body := body, defers := w.heap.size }) = w2 at i2
              have hl2 : h2.l.length = es.h.n + 2 := hlen2
              have i3 : Inv E nt w0 S0 W0 m ρ0 ρ2 S w2 (({ es with df := .mark es.h.n :: es.df, h := h2 } : ES).st nt) { a with defers := [{ target := .collected w.heap.size, args := #[] }] ++ a.defers } :=
                { i2 with slots := i2.slots, nt := i2.nt, defers := ⟨a.defers, by rw [hb2']; rfl, (by show es.h.n < h2.l.length; omega), i2.defers⟩ }
              -- the call
              have hgv : RV ρ2 (({ es with h := h2 } : ES).st nt).hp.length S w2 (.fn gf first caps) (a.eval g) := by
                have hx := evE.rv inv hg
                have hS2 : Same S w w2 := fun b hb => by
                  have hb' := inv.heap.old b hb
                  rw [← hw2, heap_alloc_old _ _ (by omega), ← hw1, heap_alloc_old _ _ hb']
                refine hx.mono (by rw [hlen2, hlen]; omega) (fun c hc => ?_) (fun _ h => h) hS2
                rw [hlen] at hc
                rw [← hρ2, more_old (by rw [hlen1]; omega), ← hρ1, more_old (by rw [hlen]; exact hc)]
              generalize hx : a.eval g = y at hgv
              cases hgv with | fn a1 a2 a3 a4 =>
              rename_i xs ys
              rw [appE_eq] at hcall
              obtain ⟨c1, c2⟩ := hC.fn _ _ _ _ _ _ hcall
              have hyl : RV ρ2 h2.l.length S w2 (.yl h1.n) (.func (.yield (w.heap.size + 1)) #[] #[]) := by
                rw [← hb2]; exact .yl (by rw [hl2, hn1]; omega)
              have hargs : RVs ρ2 h2.l.length S w2 (first ++ .yl h1.n :: caps) (xs ++ .func (.yield (w.heap.size + 1)) #[] #[] :: ys) := RVs.app ⟨a1, a2⟩ (.cons hyl ⟨a3, a4⟩)
              have hCalls := (c2 ρ2 S w2 _ hargs i3.heap (fun g ds hg => (i3.glob g ds hg).mono (Nat.le_refl _) (fun _ h => absurd h (by omega)) (fun _ h => h) (fun _ _ => rfl))).1
              refine ⟨w.heap.size + 1, [{ target := .collected w.heap.size, args := #[] }], w2, { target := .fn (.func gf) ys.toArray, args := (xs ++ [Value.func (.yield (w.heap.size + 1)) #[] #[]]).toArray }, w2, gf, (xs ++ .func (.yield (w.heap.size + 1)) #[] #[] :: ys).toArray, w2, ?_, ?_, fun _ _ => trivial, ?_, Fw.one _ _, (callsIn_wide (n := 0 - 1)).2 (hCalls.mono fun e0 w3 hp => ?_)⟩
              · rw [← hw2, ← hw1]; exact run_enterLoop_outer fn a.tmps ps assign body
              · simp only [rangeCall, resolve, hx, Deferred.ofValue]
                simp [Act.eval]
              · have := c1.run ((xs ++ .func (.yield (w.heap.size + 1)) #[] #[] :: ys).toArray) w2
                simp only [invoke]
                rw [← this]
                congr 2
                simp
              · obtain ⟨x, _, _, he, _⟩ := id hp
                subst he
                obtain ⟨ρ3, S3, j1, j2, _, j4⟩ := i3.called hp
                have j1' : Inv E nt w0 S0 W0 m ρ0 ρ3 S3 w3 (({ es with df := .mark es.h.n :: es.df, h := h3 } : ES).st nt) { a with defers := [{ target := .collected w.heap.size, args := #[] }] ++ a.defers } := j1
                obtain ⟨r, r1, r2, r3, r4⟩ := j1'.lp (st' := .exhausted) (pend' := pend) hg3 e4
                have hb3 : (ρ3 h1.n).b = w.heap.size + 1 := by rw [j4 h1.n (by show h1.n < h2.l.length; rw [hl2, hn1]; omega), hb2]
                rw [hb3] at r1 r4
                have hend := run_endLoop (P := E.P) r1 (by rw [r2]; exact hst)
                have ew : ({ r with state := .exhausted, pending := pend } : Loop) = { r with state := .exhausted } := by rw [← r3]
                rw [ew] at r4
                have r4 := r4.drop (c := h1.n)
                have e5' : ({ ({ es with df := .mark es.h.n :: es.df, h := h4 } : ES).st nt with hp := (({ es with df := .mark es.h.n :: es.df, h := h4 } : ES).st nt).hp.set h1.n none } : St) = ({ es with df := .mark es.h.n :: es.df, h := h5 } : ES).st nt := by
                  obtain ⟨_, s2⟩ := setC.of e5
                  show (⟨_, _, _⟩ : St) = ⟨_, _, _⟩
                  congr 1
                  exact s2.symm
                rw [show ({ ({ es with df := .mark es.h.n :: es.df, h := h3 } : ES) with h := h4 } : ES) = { es with df := .mark es.h.n :: es.df, h := h4 } from rfl, e5'] at r4
                refine ⟨r.pending, _, hend, ?_⟩
                rw [r3] at r4 ⊢
                unfold jumpK at hj
                split at hj
                · have := some_eq hj
                  injection this with q1 q2
                  subst q1; subst q2
                  exact hK _ _ _ _ r4
                · have := some_eq hj
                  injection this with q1 q2
                  subst q1; subst q2
                  exact wpIn_ret (hK _ _ _ _ r4)
                · have := some_eq hj
                  injection this with q1 q2
                  subst q1; subst q2
                  exact wpIn_exit (hK _ _ _ _ r4)
                · cases hj
            · cases h
          · cases h
        · cases h
      · cases h
    · cases h
  | _ => intro hT Q ρ S w es a e es' inv h hK; simp only [codeE] at h; cases h

/-! ### results -/
def resE (E : Env) (nt : Nat) (es : ES) : List ResultVar → Option (List V)
  | [] => some []
  | .tmp t :: r => match slotE nt es t with
    | some v => match resE E nt es r with
      | some l => some (v :: l)
      | none => none
    | none => none
  | .cell p t :: r => match slotE nt es p with
    | some v => match loadE E t es v with
      | some u => match resE E nt es r with
        | some l => some (u :: l)
        | none => none
      | none => none
    | none => none
theorem slotE.look {d : Tmp} {v : V} (h : slotE nt es d = some v) : Go.E.look d (es.st nt).slots = some v := by
  unfold slotE at h
  rw [es.look nt d]
  by_cases hd : d < nt
  · rw [blt_t hd] at h; rw [if_pos hd]; exact h
  · rw [blt_f hd] at h; cases h
theorem resE.of : ∀ {rs : List ResultVar} {vs : List V} {k : List V → Prop}, resE E nt es rs = some vs → k vs → retsK E (es.st nt) rs k
  | [], vs, k, h, hk => by simp only [resE, Option.some.injEq] at h; subst h; exact hk
  | .tmp t :: r, vs, k, h, hk => by
    simp only [resE] at h
    split at h
    · rename_i v hv
      split at h
      · rename_i l hl
        have := some_eq h; subst this
        simp only [retsK, slotE.look hv]
        exact resE.of (k := fun l => k (v :: l)) hl hk
      · cases h
    · cases h
  | .cell p t :: r, vs, k, h, hk => by
    simp only [resE] at h
    split at h
    · rename_i v hv
      split at h
      · rename_i u hu
        split at h
        · rename_i l hl
          have := some_eq h; subst this
          simp only [retsK, slotE.look hv]
          exact loadE.of hu (resE.of (k := fun l => k (u :: l)) hl hk)
        · cases h
      · cases h
    · cases h

/-! ### functions -/
def initE : List V → Nat → Tr (Option V) → Option (Tr (Option V))
  | [], _, t => some t
  | v :: vs, i, t => match t.set i (some v) with
    | some t' => initE vs (i + 1) t'
    | none => none

theorem initE.out : ∀ {vs : List V} {i : Nat} {t t' : Tr (Option V)}, initE vs i t = some t' → ∀ j, t'.get none j = if i ≤ j ∧ j < i + vs.length then vs[j - i]? else t.get none j
  | [], i, t, t', h, j => by
    simp only [initE, Option.some.injEq] at h; subst h
    rw [if_neg (by simp)]
  | v :: vs, i, t, t', h, j => by
    simp only [initE] at h
    split at h
    · rename_i t1 ht
      rw [initE.out h j, Tr.get_set ht]
      by_cases e : j = i
      · subst e
        rw [if_neg (by omega), if_pos rfl, if_pos (by simp)]
        simp
      · by_cases hj : i + 1 ≤ j ∧ j < i + 1 + vs.length
        · rw [if_pos hj, if_pos (by simp; omega), show j - i = (j - (i + 1)) + 1 by omega]
          simp
        · rw [if_neg hj, if_neg e, if_neg (by simp; omega)]
    · cases h

/-- What was put off, behind the body. -/
def runDf (call : CallF) : HS → List Df → Option HS
  | h, [] => some h
  | h, .call f us vs :: r => match call.fn f (appE us vs) h with
    | some (_, h', true) => runDf call h' r
    | _ => none
  | h, .mark c :: r => match getC h c with
    | some (.dq true) => match setC h c (some (.dq false)) with
      | some h' => runDf call h' r
      | none => none
    | _ => none

/-- A round's parameters are put in. -/
def setPs : List Tmp → List V → Tr (Option V) → Option (Tr (Option V))
  | [], [], t => some t
  | p :: ps, v :: vs, t => match t.set p (some v) with
    | some t' => setPs ps vs t'
    | none => none
  | _, _, _ => none

def jumpOf : X → Option Code
  | .normal => none
  | .ret => some .ret
  | .exit i => some (.exit i)
def stOf : X → LoopState
  | .normal => .ready
  | _ => .done
def trueOf : X → Bool
  | .normal => true
  | _ => false

def endRoundE (c : Nat) : Option (X × ES) → Option (V × HS)
  | some (x, es) => match getC es.h c with
    | some (.lp rb _ _ sl dq) => match setC es.h c (some (.lp rb (stOf x) (jumpOf x) sl dq)) with
      | some h => match rB (trueOf x) with
        | some v => some (v, h)
        | none => none
      | none => none
    | _ => none
  | none => none
def beginRoundE (c : Nat) (k : ES → Option (V × HS)) : Option (X × ES) → Option (V × HS)
  | some (.normal, es) => match getC es.h c with
    | some (.lp rb .ready pend sl dq) => match setC es.h c (some (.lp rb .busy pend sl dq)) with
      | some h => k { es with h := h }
      | none => none
    | _ => none
  | _ => none

def bodyK (E : Env) (nt : Nat) (call : CallF) (rs : List ResultVar) : Option (X × ES) → Option (V × HS × Bool)
  | some (.exit _, _) => none
  | some (_, es) => match es.df with
    | [] => match resE E nt es rs with
      | some vs => some (tupV vs, es.h, true)
      | none => none
    | df => match runDf call es.h df with
      | some h' => match resE E nt { es with h := h', df := [] } rs with
        | some vs => some (tupV vs, h', false)
        | none => none
      | none => none
  | none => none

/-- What is told of a call elsewhere: its result; memory stays. -/
abbrev Ext := FuncId → List V → HS → Option V
def noExt : Ext := fun _ _ _ => none
def ExtOk (E : Env) (X : Ext) : Prop := ∀ f args h v, X f args h = some v → FOk E.P f ∧ ∀ (ρ : Nat → Bk) (S : Nat → Prop) (w : World) (xs : List Value), RVs ρ h.l.length S w args xs → Heap ρ S w h.l →
  (∀ g ds, look g E.G = some ds → RV ρ 0 S w ds (.pointer (some ⟨g, 0, none⟩))) → Calls E.P f xs.toArray w (PostE h.l.length ρ S w h.l v h.l)
theorem noExt.ok : ExtOk E noExt := fun _ _ _ _ e => by cases e

/-- The evaluator's calls, as deep as n; X: calls told of elsewhere. -/
def cfX (E : Env) (F : FuncId → Option (Func × Tr (Option Pre))) (X : Ext) : Nat → CallF
  | 0 => ⟨fun _ _ _ => none, fun _ _ _ => none⟩
  | n + 1 => ⟨fun f args h => match X f args h with
      | some v => some (v, h, false)
      | none => match F f with
      | some (fn, T) => match fn.body with
        | some c => match initE args 0 (Tr.mk none 64 fn.ntmps) with
          | some sl => bif Nat.ble args.length fn.ntmps && Nat.ble fn.results.toList.length 4 then bodyK E fn.ntmps (cfX E F X n) fn.results.toList (codeE E fn.ntmps (cfX E F X n) (some f) n T c ⟨sl, h, []⟩) else none
          | none => none
        | none => none
      | none => none,
    fun k args h => match getC h k with
      | some (.lp rb _ _ sl _) => match F rb.key with
        | some (_, T) => match setPs rb.params.toList args sl with
          | some sl' => beginRoundE k (fun es => endRoundE k (codeE E rb.nt (cfX E F X n) none n T rb.body es)) (codeE E rb.nt (cfX E F X n) none n T rb.assign ⟨sl', h, []⟩)
          | none => none
        | none => none
      | _ => none⟩
abbrev cfE (E : Env) (F : FuncId → Option (Func × Tr (Option Pre))) : Nat → CallF := cfX E F noExt
abbrev fnE (E : Env) (F : FuncId → Option (Func × Tr (Option Pre))) (n : Nat) := (cfE E F n).fn

/-- The functions are the program's. -/
def FnOk (E : Env) (F : FuncId → Option (Func × Tr (Option Pre))) : Prop := ∀ f fn T, F f = some (fn, T) → E.P.funcs[f]? = some fn ∧ (fn.name == "runtime.NumGoroutine") = false ∧ ∀ c, fn.body = some c → drawsOk T c = true

theorem post_of {n : Nat} {S0 : Nat → Prop} {W0 : Nat → Prop} {hp0 : List (Option Ch)} {v : V} {x : Value} (hW : W0 = Wr ρ0 hp0) (inv : Inv E nt w0 S0 W0 n ρ0 ρ S w s a) (hr : RV ρ s.hp.length S w v x) : PostE n ρ0 S0 w0 hp0 v s.hp (.returned x) w :=
  ⟨x, ρ, S, rfl, hr, inv.heap, hW ▸ inv.hist, inv.par, inv.le, inv.keep, hW ▸ inv.new⟩

theorem runDf.out {call : CallF} {fn : Func} {R : Ending → World → Prop} (hC : CallOk E call) : ∀ (df : List Df) (ρ : Nat → Bk) (S : Nat → Prop) (w : World) (es : ES) (a : Act) (h' : HS), es.df = df → Inv E nt w0 S0 W0 m ρ0 ρ S w (es.st nt) a → runDf call es.h df = some h' →
    (∀ ρ S w a', a'.tmps = a.tmps → Inv E nt w0 S0 W0 m ρ0 ρ S w (({ es with h := h', df := [] } : ES).st nt) a' → ∃ v, (results fn a'.tmps).run E.P w = .ok v w ∧ R (.returned v) w) → LeavesInM (Fw none) 0 E.P fn a.tmps R a.defers .returning w
  | [], ρ, S, w, es, a, h', hdf, inv, h, hK => by
    have := some_eq h; subst this
    have hd' : RDf ρ (es.st nt).hp.length S w es.df a.defers := inv.defers
    rw [hdf] at hd'
    have hd' : a.defers = [] := hd'
    rw [hd']
    have e : ({ es with h := es.h, df := [] } : ES) = es := by cases es; simp only at hdf; subst hdf; rfl
    exact hK ρ S w a rfl (e ▸ inv)
  | .call f us vs :: r, ρ, S, w, es, a, h', hdf, inv, h, hK => by
    simp only [runDf] at h
    split at h
    · rename_i u h1 hc
      rw [appE_eq] at hc
      have hd' : RDf ρ (es.st nt).hp.length S w es.df a.defers := inv.defers
      rw [hdf] at hd'
      obtain ⟨xs, ys, ds, hds, r1, r2, r3⟩ := hd'
      obtain ⟨c1, c2⟩ := hC.fn _ _ _ _ _ _ hc
      rw [hds]
      refine ⟨by simp, .inr ⟨Fw.one _ _, Fn.func f, ys.toArray, f, xs.toArray ++ ys.toArray, rfl, ?_, fun _ _ => trivial, ?_⟩⟩
      · show (callFunc f (xs.toArray ++ ys.toArray)).run E.P w = _
        exact c1.run _ w
      · have hcall := (c2 ρ S w (xs ++ ys) (r1.app r2) inv.heap (fun g ds hg => (inv.glob g ds hg).mono (Nat.le_refl _) (fun _ h => absurd h (by omega)) (fun _ h => h) (fun _ _ => rfl))).2 rfl .returning
        have e : (xs.toArray ++ ys.toArray) = (xs ++ ys).toArray := by simp
        rw [e]
        refine CallsDIn.mono hcall fun e u' w' ⟨hu, hp⟩ => ?_
        subst hu
        obtain ⟨x, _, _, he, _⟩ := id hp
        subst he
        obtain ⟨ρ', S', i1, i2, i3, i4⟩ := inv.called hp
        have i1' : Inv E nt w0 S0 W0 m ρ0 ρ' S' w' (({ es with h := h1, df := r } : ES).st nt) { a with defers := ds } := by
          have hdd : RDf ρ' h1.l.length S' w' es.df a.defers := i1.defers
          rw [hdf, hds] at hdd
          obtain ⟨xs', ys', ds', q1, q2, q3, q4⟩ := hdd
          injection q1 with q1 q5
          subst q5
          exact { i1 with slots := i1.slots, defers := q4, nt := i1.nt }
        exact runDf.out hC r _ _ _ { es with h := h1, df := r } { a with defers := ds } h' rfl i1' h hK
    · cases h
  | .mark c :: r, ρ, S, w, es, a, h', hdf, inv, h, hK => by
    simp only [runDf] at h
    split at h
    · rename_i hc
      split at h
      · rename_i h1 e1
        have hd' : RDf ρ (es.st nt).hp.length S w es.df a.defers := inv.defers
        rw [hdf] at hd'
        obtain ⟨ds, hds, r1, r2⟩ := hd'
        have hc' := getC.of hc
        rw [nth_eq] at hc'
        have hb : w.heap[(ρ c).b]? = some (.deferred (some [])) := inv.heap.at_ c _ hc'
        have hlt : (ρ c).b < w.heap.size := (Array.getElem?_eq_some_iff.1 hb).1
        have i1 := inv.turn (w' := w.putObj (ρ c).b (.deferred none)) (ch' := .dq false) hc' (fun b hb => World.putObj_heap_other hb) World.putObj_size rfl rfl rfl (World.putObj_heap_same hlt)
        rw [setC.h e1] at i1
        rw [hds]
        refine ⟨by simp, .inl ⟨(ρ c).b, _, rfl, run_takeDeferred hb, ?_⟩⟩
        have i1' : Inv E nt w0 S0 W0 m ρ0 ρ S (w.putObj (ρ c).b (.deferred none)) (({ es with h := h1, df := r } : ES).st nt) { a with defers := ds } := by
          have hdd : RDf ρ h1.l.length S (w.putObj (ρ c).b (.deferred none)) es.df a.defers := i1.defers
          rw [hdf, hds] at hdd
          obtain ⟨ds', q1, q2, q3⟩ := hdd
          injection q1 with q1 q5
          subst q5
          exact { i1 with slots := i1.slots, defers := q3, nt := i1.nt }
        exact runDf.out hC r _ _ _ { es with h := h1, df := r } { a with defers := ds } h' rfl i1' h hK
      · cases h
    · cases h

theorem setPs.out : ∀ {ps : List Tmp} {vs : List V} {xs : List Value} {t t' : Tr (Option V)} {N nt : Nat} {tmps : Array Value}, setPs ps vs t = some t' → RVs ρ N S w vs xs → tmps.size = nt → (∀ i v, t.get none i = some v → i < nt → ∃ x, tmps[i]? = some x ∧ RV ρ N S w v x) →
    ps.length = xs.length ∧ ∀ i v, t'.get none i = some v → i < nt → ∃ x, ((ps.zip xs).foldl (fun (tmps : Array Value) p => tmps.setIfInBounds p.1 p.2) tmps)[i]? = some x ∧ RV ρ N S w v x
  | [], [], xs, t, t', N, nt, tmps, h, hx, hs, ht => by
    have := some_eq h; subst this
    rw [hx.nil_eq]
    exact ⟨rfl, ht⟩
  | p :: ps, v :: vs, xs, t, t', N, nt, tmps, h, hx, hs, ht => by
    obtain ⟨y, ys, rfl, h1, h2⟩ := hx.cons_eq
    simp only [setPs] at h
    split at h
    · rename_i t1 e1
      have := setPs.out (tmps := tmps.setIfInBounds p y) h h2 (by simpa using hs) (fun i u hu hi => by
        rw [Tr.get_set e1] at hu
        by_cases e : i = p
        · subst e
          rw [if_pos rfl] at hu
          have := some_eq hu; subst this
          exact ⟨y, by simp [hs, hi], h1⟩
        · rw [if_neg e] at hu
          obtain ⟨x, g1, g2⟩ := ht i u hu hi
          exact ⟨x, by rw [Array.getElem?_setIfInBounds_ne (by omega)]; exact g1, g2⟩)
      exact ⟨by simp [this.1], by simpa using this.2⟩
    · cases h
  | [], _ :: _, _, _, _, _, _, _, h, _, _, _ => by simp only [setPs] at h; cases h
  | _ :: _, [], _, _, _, _, _, _, h, _, _, _ => by simp only [setPs] at h; cases h

theorem roundTmps_eq (r : Loop) (xs : List Value) : roundTmps r xs = (r.params.toList.zip xs).foldl (fun (tmps : Array Value) p => tmps.setIfInBounds p.1 p.2) r.tmps := by
  unfold roundTmps
  rw [← Array.foldl_toList]
  congr 1
  simp
theorem fold_size : ∀ (l : List (Tmp × Value)) (t : Array Value), (l.foldl (fun (tmps : Array Value) p => tmps.setIfInBounds p.1 p.2) t).size = t.size
  | [], _ => rfl
  | p :: l, t => by rw [List.foldl_cons, fold_size l]; simp

theorem cfX.out {F : FuncId → Option (Func × Tr (Option Pre))} {xt : Ext} (hE : E.Ok) (hF : FnOk E F) (hX : ExtOk E xt) (hM : E.P.follows .mixedOrders = true) : ∀ n, CallOk E (cfX E F xt n)
  | 0 => ⟨fun f args h v h' nd e => (by simp only [cfX] at e; cases e), fun k args h v h' e => (by simp only [cfX] at e; cases e)⟩
  | n + 1 => by
    have hC := cfX.out hE hF hX hM n
    refine ⟨fun f args h v h' nd e => ?_, fun k args h v h' e ρ S w xs hx hh hg => ?_⟩
    · simp only [cfX] at e
      split at e
      · rename_i u hu
        have := some_eq e
        injection this with e1 e2
        injection e2 with e2 e3
        subst e1; subst e2; subst e3
        exact ⟨(hX _ _ _ _ hu).1, fun ρ S w xs hx hh hg => ⟨(hX _ _ _ _ hu).2 ρ S w xs hx hh hg, fun hf => by cases hf⟩⟩
      split at e
      · rename_i fn T hfn
        obtain ⟨p1, p2, p3⟩ := hF f fn T hfn
        split at e
        · rename_i c hb
          split at e
          · rename_i sl hsl
            cases hcond : (Nat.ble args.length fn.ntmps && Nat.ble fn.results.toList.length 4) with
            | false => rw [hcond] at e; cases e
            | true =>
            rw [hcond] at e
            simp only [cond_true] at e
            obtain ⟨q1, q2⟩ := Bool.and_eq_true_iff.1 hcond
            have q1 := Nat.le_of_ble_eq_true q1
            have q2 := Nat.le_of_ble_eq_true q2
            refine ⟨⟨fn, p1, p2, by simp [hb]⟩, fun ρ S w xs hx hh hg => ?_⟩
            have hlen := hx.1
            -- as the body is entered
            have inv0 : Inv E fn.ntmps w S (Wr ρ h.l) h.l.length ρ ρ S w ((⟨sl, h, []⟩ : ES).st fn.ntmps) { tmps := xs.toArray ++ Array.replicate (fn.ntmps - xs.toArray.size) undef, defers := [] } := by
              refine ⟨fun i u hu => ?_, hh, ⟨rfl, rfl, rfl, Nat.le_refl _, fun _ _ _ => rfl, fun b hb => .inl hb⟩, fun _ _ => rfl, Nat.le_refl _, fun _ h => h, fun c ch hc => .inr ⟨c, ch, hc, rfl⟩, hg, rfl, by simp; omega⟩
              rw [ES.look] at hu
              split at hu
              · have := initE.out hsl i
                simp only at hu
                rw [this, Tr.get_mk] at hu
                split at hu
                · rename_i hi
                  simp only [Nat.sub_zero] at hu
                  have hi' : i < xs.length := by omega
                  refine ⟨xs[i], ?_, ?_⟩
                  · rw [Array.getElem?_append_left (by simpa using hi')]
                    simp [hi']
                  · have := hx.2 i u _ hu (List.getElem?_eq_getElem hi')
                    exact this
                · cases hu
              · cases hu
            have main : ∀ (ex : X) (es : ES), codeE E fn.ntmps (cfX E F xt n) (some f) n T c ⟨sl, h, []⟩ = some (ex, es) → (∀ j, ex ≠ .exit j) → ∀ (Q : Exit → Act → World → Prop), (∀ ρ' S' w' a', Inv E fn.ntmps w S (Wr ρ h.l) h.l.length ρ ρ' S' w' (es.st fn.ntmps) a' → Q .ret a' w' ∧ Q .normal a' w') →
                c.wpIn (Fw none) 0 E.P Q { tmps := xs.toArray ++ Array.replicate (fn.ntmps - xs.toArray.size) undef, defers := [] } w := by
              intro ex es hcode hex Q hQ
              refine codeE.out hE hC hM c (show Mode (some f) none T c from ⟨rfl, p3 c hb⟩) _ ρ S w _ _ ex es inv0 hcode fun ρ' S' w' a' i => ?_
              obtain ⟨g1, g2⟩ := hQ ρ' S' w' a' i
              cases ex with
              | normal => exact g2
              | ret => exact g1
              | exit j => exact absurd rfl (hex j)
            unfold bodyK at e
            split at e
            · cases e
            · rename_i ex es hne hcode
              have hex : ∀ j, ex ≠ .exit j := fun j hj => by exact hne j hj
              have fin : ∀ (R : Ending → World → Prop) (es1 : ES) (vs : List V), resE E fn.ntmps es1 fn.results.toList = some vs → (∀ x ρ' S' w' (a' : Act), Inv E fn.ntmps w S (Wr ρ h.l) h.l.length ρ ρ' S' w' (es1.st fn.ntmps) a' → RV ρ' (es1.st fn.ntmps).hp.length S' w' (tupV vs) x → R (.returned x) w') →
                  ∀ ρ' S' w' (a' : Act), Inv E fn.ntmps w S (Wr ρ h.l) h.l.length ρ ρ' S' w' (es1.st fn.ntmps) a' → ∃ v, (results fn a'.tmps).run E.P w' = .ok v w' ∧ R (.returned v) w' := by
                intro R es1 vs hres hR ρ' S' w' a' i
                obtain ⟨vs', zs, h1, h2, h3, h4⟩ := retsK.out hE (resE.of (k := fun q => q = vs) hres rfl) i
                subst h4
                exact ⟨tupX zs, results_run (rs := fn.results.toList) (by simp) q2 (by rw [← h1.1, h2]) (fun i r x => h3 i r x), hR _ _ _ _ _ i (tup_rv h1)⟩
              split at e
              · rename_i hdf
                split at e
                · rename_i vs hres
                  have := some_eq e
                  injection this with e1 e2
                  injection e2 with e2 e3
                  subst e1; subst e2; subst e3
                  have hwp : ∀ (R : Ending → World → Prop), (∀ x w', PostE h.l.length ρ S w h.l (tupV vs) es.h.l (.returned x) w' → R (.returned x) w') → c.wpIn (Fw none) 0 E.P (bodyPost E.P fn R) { tmps := xs.toArray ++ Array.replicate (fn.ntmps - xs.toArray.size) undef, defers := [] } w := by
                    intro R hR
                    refine main ex es hcode hex _ fun ρ' S' w' a' i => ?_
                    have hd : a'.defers = [] := by
                      have hd' : RDf ρ' (es.st fn.ntmps).hp.length S' w' es.df a'.defers := i.defers
                      rw [hdf] at hd'
                      exact hd'
                    obtain ⟨v, v1, v2⟩ := fin R es vs hres (fun x ρ' S' w' a' i hr => hR x w' (post_of rfl i hr)) ρ' S' w' a' i
                    exact ⟨⟨hd, v, v1, v2⟩, ⟨hd, v, v1, v2⟩⟩
                  exact ⟨calls_of_wp p1 hb ((wpIn_wide (n := 0)).1 (hwp _ fun x w' hp => hp)), fun _ u => callsDIn_of_wp (F := Fw none) p1 hb trivial (hwp _ fun x w' hp => hp)⟩
                · cases e
              · split at e
                · rename_i h1 hrun
                  split at e
                  · rename_i vs hres
                    have := some_eq e
                    injection this with e1 e2
                    injection e2 with e2 e3
                    subst e1; subst e2; subst e3
                    refine ⟨(callsIn_wide (n := 0)).1 (callsIn_of_wp_marks (F := Fw none) p1 hb trivial (main ex es hcode hex _ fun ρ' S' w' a' i => ?_)), fun hf => by cases hf⟩
                    have := runDf.out (fn := fn) (R := PostE h.l.length ρ S w h.l (tupV vs) h1.l) hC es.df ρ' S' w' es a' h1 rfl i hrun fun ρ2 S2 w2 a2 ha2 i2 => fin _ _ vs hres (fun x ρ' S' w' a' i hr => post_of rfl i hr) _ _ _ _ i2
                    exact ⟨this, this⟩
                  · cases e
                · cases e
            · cases e
          · cases e
        · cases e
      · cases e
    · simp only [cfX] at e
      split at e
      · rename_i rb st pend sl dq hk
        split at e
        · rename_i fn0 T hfn
          split at e
          · rename_i sl' hsl
            have hk' := getC.of hk
            rw [nth_eq] at hk'
            obtain ⟨fn, tmps, g1, g2, g3⟩ := hh.at_ k _ hk'
            obtain ⟨s1, s2⟩ := setPs.out (nt := rb.nt) hsl hx g2.1 g3
            refine ⟨_, g1, by rw [← s1]; simp, ?_⟩
            have inv0 : Inv E rb.nt w S (Wr ρ h.l) h.l.length ρ ρ S w ((⟨sl', h, []⟩ : ES).st rb.nt) { tmps := roundTmps { state := st, pending := pend, fn := fn, tmps := tmps, params := rb.params, assign := rb.assign, body := rb.body, defers := (ρ dq).b } xs, defers := [] } := by
              refine ⟨fun i u hu => ?_, hh, ⟨rfl, rfl, rfl, Nat.le_refl _, fun _ _ _ => rfl, fun b hb => .inl hb⟩, fun _ _ => rfl, Nat.le_refl _, fun _ h => h, fun c ch hc => .inr ⟨c, ch, hc, rfl⟩, hg, rfl, ?_⟩
              · rw [ES.look] at hu
                split at hu
                · rename_i hi
                  rw [roundTmps_eq]
                  exact s2 i u hu hi
                · cases hu
              · show (roundTmps _ xs).size = _
                rw [roundTmps_eq, fold_size]; exact g2.1
            refine roundIn_of_wpIn (F := Fw none) (n := 0) trivial ?_
            unfold beginRoundE at e
            split at e
            · rename_i es1 h1
              refine codeE.out (fk := none) (ro := some (ρ k).b) hE hC hM rb.assign trivial _ ρ S w _ _ _ es1 inv0 h1 fun ρ1 S1 w1 a1 i1 => ?_
              split at e
              · rename_i rb1 pend1 sl1 dq1 hk1
                split at e
                · rename_i h2 e2
                  obtain ⟨r, r1, r2, r3, r4⟩ := i1.lp (st' := .busy) (pend' := pend1) hk1 e2
                  have hkk : (ρ1 k).b = (ρ k).b := by
                    rw [i1.par k (List.getElem?_eq_some_iff.1 hk').1]
                  rw [hkk] at r1 r4
                  have hbr := run_beginRound (P := E.P) r1 r2
                  have ew : ({ r with state := .busy, pending := pend1 } : Loop) = { r with state := .busy } := by rw [← r3]
                  rw [ew] at r4
                  refine ⟨_, hbr, ?_⟩
                  have e : endRoundE k (codeE E rb.nt (cfX E F xt n) none n T rb.body { es1 with h := h2 }) = some (v, h') := e
                  unfold endRoundE at e
                  split at e
                  · rename_i x es3 h3
                    refine codeE.out (fk := none) (ro := some (ρ k).b) hE hC hM rb.body trivial _ ρ1 S1 _ _ _ _ es3 r4 h3 fun ρ3 S3 w3 a3 i3 => ?_
                    split at e
                    · rename_i rb3 st3 pend3 sl3 dq3 hk3
                      split at e
                      · rename_i h4 e4
                        obtain ⟨q, q1, q2, q3, q4⟩ := i3.lp (st' := stOf x) (pend' := jumpOf x) hk3 e4
                        have hkk3 : (ρ3 k).b = (ρ k).b := by
                          rw [i3.par k (List.getElem?_eq_some_iff.1 hk').1]
                        rw [hkk3] at q1 q4
                        have hen := run_endRound (P := E.P) (jumpOf x) q1
                        rw [rB_eq] at e
                        have := some_eq e
                        injection this with y1 y2
                        subst y1; subst y2
                        have hst : (if (jumpOf x).isNone = true then LoopState.ready else LoopState.done) = stOf x := by cases x <;> rfl
                        have hv : RV ρ3 (({ es3 with h := h4 } : ES).st rb.nt).hp.length S3 (w3.putObj (ρ k).b (.loop { q with state := stOf x, pending := jumpOf x })) (V.bool (trueOf x)) (.bool (jumpOf x).isNone) := by
                          cases x <;> exact .d (.v rfl)
                        have hpost := post_of rfl q4 hv
                        rw [← hst] at hpost
                        cases x with
                        | normal => exact ⟨_, _, hen, hpost⟩
                        | ret => exact ⟨_, _, hen, hpost⟩
                        | exit j => exact ⟨_, _, hen, hpost⟩
                      · cases e
                    · cases e
                  · cases e
                · cases e
              · cases e
            · cases e
          · cases e
        · cases e
      · cases e
theorem fnE.out {F : FuncId → Option (Func × Tr (Option Pre))} (hE : E.Ok) (hF : FnOk E F) (hM : E.P.follows .mixedOrders = true) (n : Nat) : CallOk E (cfE E F n) := cfX.out hE hF noExt.ok hM n

end
end
end Go.E
