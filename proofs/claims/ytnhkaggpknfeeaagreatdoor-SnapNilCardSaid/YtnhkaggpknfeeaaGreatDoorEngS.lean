/-
  THE ENGINE, PART S: drawn regions by a schedule that is made once: what need not be looked at again in each run.
-/
import Derived.Test.YtnhkaggpknfeeaaGreatDoorEngQ
namespace Go.E
open Go
noncomputable section

/-- A schedule: operations by number (ck: the loads to be looked at again); a leaf; ways that part (q: where both only add to the heap: what they write); ways that come together again. -/
inductive Pre where
  | fin
  | sil (i : Nat) (next : Pre)
  | eff (i : Nat) (ck : List Nat) (next : Pre)
  | alt (q : Option (List Nat)) (a b : Pre)
  | join (tree next : Pre)

inductive Sch where
  | fin
  | sil (i : Nat) (o : Oper) (next : Sch)
  | eff (i : Nat) (o : Oper) (chk : List Oper) (next : Sch)
  | alt (q : Option (List Nat)) (a b : Sch)
  | join (tree next : Sch)

/-- A load that is looked at again. -/
def again2 (E : Env) (nt : Nat) (es : ES) (o : Oper) : Bool := bif ldE E o.op then (match ldTmp o with
    | some (_, t, d) => match slotE nt es t with
      | some p => match slotE nt es d with
        | some (.tup []) => true
        | some u => match o.op with
          | .load ty _ => match loadE E ty es p with
            | some v => detV u && eqV (fun c => c) es.h.n v u
            | none => false
          | _ => false
        | none => false
      | none => false
    | none => false) else true
def againsE (E : Env) (nt : Nat) (es : ES) : List Oper → Bool
  | [] => true
  | o :: r => again2 E nt es o && againsE E nt es r

def mayLd : Op → Bool
  | .load _ _ => true
  | .lookup _ _ _ _ => true
  | .convert _ _ _ => true
  | _ => false
theorem ldE_may {E : Env} {o : Op} (h : ldE E o = true) : mayLd o = true := by
  unfold ldE at h
  split at h <;> first | rfl | cases h

/-- The loads that operation j did not wait for. -/
def chkI (ops : Array Oper) (listed : Array Bool) (j : Nat) : Nat → List Oper → List Nat
  | _, [] => []
  | i, o :: os => bif (mayLd o.op && listed.getD i false) && !(waitsB .any ops 3 i j) then i :: chkI ops listed j (i + 1) os else chkI ops listed j (i + 1) os
theorem chkI.out {ops : Array Oper} {listed : Array Bool} {j : Nat} : ∀ {os : List Oper} {k i : Nat} {o : Oper}, os[i]? = some o → listed.getD (k + i) false = true → mayLd o.op = true → waitsB .any ops 3 (k + i) j = false → k + i ∈ chkI ops listed j k os
  | [], k, i, o, h, _, _, _ => by simp at h
  | p :: os, k, i, o, h, hl, hm, hw => by
    cases i with
    | zero =>
      simp at h; subst h
      rw [Nat.add_zero] at hl hw ⊢
      unfold chkI
      rw [hl, hm, hw]
      exact List.mem_cons_self
    | succ i =>
      have := chkI.out (k := k + 1) (i := i) (show os[i]? = some o by simpa using h) (by rwa [show k + 1 + i = k + (i + 1) by omega]) hm (by rwa [show k + 1 + i = k + (i + 1) by omega])
      rw [show k + 1 + i = k + (i + 1) by omega] at this
      unfold chkI
      cases hb : ((mayLd p.op && listed.getD k false) && !(waitsB .any ops 3 k j)) with
      | true => exact List.mem_cons_of_mem _ this
      | false => exact this
def opsAt (opsL : List Oper) : List Nat → List Oper
  | [] => []
  | i :: l => match nth opsL i with
    | some o => o :: opsAt opsL l
    | none => opsAt opsL l
theorem opsAt.out {opsL : List Oper} : ∀ {l : List Nat} {i : Nat} {o : Oper}, i ∈ l → opsL[i]? = some o → o ∈ opsAt opsL l
  | [], i, o, h, _ => by cases h
  | j :: l, i, o, h, ho => by
    unfold opsAt
    rcases List.mem_cons.1 h with rfl | h
    · rw [nth_eq, ho]; exact List.mem_cons_self
    · have := opsAt.out h ho
      split
      · exact List.mem_cons_of_mem _ this
      · exact this
theorem againsE.out {E : Env} {nt : Nat} {es : ES} : ∀ {l : List Oper}, againsE E nt es l = true → ∀ o ∈ l, again2 E nt es o = true
  | [], _, o, h => by cases h
  | p :: l, hl, o, h => by
    simp only [againsE, Bool.and_eq_true] at hl
    rcases List.mem_cons.1 h with rfl | h
    · exact hl.1
    · exact againsE.out hl.2 o h

def firsts : Pre → List Nat
  | .eff i _ _ => [i]
  | .alt _ a b => firsts a ++ firsts b
  | _ => []
def natsEq : List Nat → List Nat → Bool
  | [], [] => true
  | x :: l, y :: r => Nat.beq x y && natsEq l r
  | _, _ => false
theorem natsEq.out : ∀ {l r : List Nat}, natsEq l r = true → l = r
  | [], [], _ => rfl
  | x :: l, y :: r, h => by
    simp only [natsEq, Bool.and_eq_true] at h
    rw [Nat.eq_of_beq_eq_true h.1, natsEq.out h.2]
  | [], _ :: _, h => by cases h
  | _ :: _, [], h => by cases h
def boolsEq : List Bool → List Bool → Bool
  | [], [] => true
  | x :: l, y :: r => bEq x y && boolsEq l r
  | _, _ => false
theorem boolsEq.out : ∀ {l r : List Bool}, boolsEq l r = true → l = r
  | [], [], _ => rfl
  | x :: l, y :: r, h => by
    simp only [boolsEq, Bool.and_eq_true] at h
    rw [bEq.out h.1, boolsEq.out h.2]
  | [], _ :: _, h => by cases h
  | _ :: _, [], h => by cases h

/-- Is this the end (none: of the region; some: of ways that come together)? -/
def leafOk (ops : Array Oper) (n : Nat) (l : Array Bool) : Option (Nat × Array Bool) → Bool
  | none => (Region.ready .any ops l).isEmpty
  | some (k, T) => Nat.beq n k && boolsEq l.toList T.toList

/-- Where the first way leads. -/
def tgt : Pre → Nat → Array Bool → Nat × Array Bool
  | .sil i p, n, l => tgt p (n - 1) (l.setIfInBounds i true)
  | .eff i _ p, n, l => tgt p (n - 1) (l.setIfInBounds i true)
  | .alt _ a _, n, l => tgt a n l
  | _, n, l => (n, l)

def silK (i : Nat) (o : Oper) : Option Sch → Option Sch
  | some s => some (.sil i o s)
  | none => none
def effK (i : Nat) (o : Oper) (chk : List Oper) : Option Sch → Option Sch
  | some s => some (.eff i o chk s)
  | none => none
def altK (q : Option (List Nat)) : Option Sch → Option Sch → Option Sch
  | some a, some b => some (.alt q a b)
  | _, _ => none
def joinK : Option Sch → Option Sch → Option Sch
  | some a, some b => some (.join a b)
  | _, _ => none

/-- The first way only adds to the heap, and writes nothing but D. -/
def addsB (ops : Array Oper) (D : List Nat) : Pre → Bool
  | .fin => true
  | .sil i p => (match ops[i]? with
    | some o => (silB o.op || addB o.op) && inD D o.dst
    | none => false) && addsB ops D p
  | .eff i _ p => (match ops[i]? with
    | some o => (silB o.op || addB o.op) && inD D o.dst
    | none => false) && addsB ops D p
  | .alt _ a _ => addsB ops D a
  | .join t p => addsB ops D t && addsB ops D p
def addsQ (ops : Array Oper) (x y : Pre) : Option (List Nat) → Bool
  | none => true
  | some D => addsB ops D x && addsB ops D y

/-- A schedule is looked at, once for all. b: are the first operations known to be just those that are ready? -/
def comp (ops : Array Oper) : Pre → Bool → Nat → Array Bool → Option (Nat × Array Bool) → Bool
  | .fin, _, n, l, T => leafOk ops n l T
  | .sil i p, _, n, l, T => match ops[i]? with
    | some o => ((Nat.blt 0 n && (silB o.op && Region.free .any ops l i)) && ((Region.ready .any ops l).contains i && okPutL o.dst l 0 ops.toList)) && comp ops p false (n - 1) (l.setIfInBounds i true) T
    | none => false
  | .eff i ck p, b, n, l, T => match ops[i]? with
    | some o => (((Nat.blt 0 n && (b || natsEq (Region.ready .any ops l) [i])) && okPutL o.dst l 0 ops.toList) && natsEq ck (chkI ops l i 0 ops.toList)) && comp ops p false (n - 1) (l.setIfInBounds i true) T
    | none => false
  | .alt q x y, b, n, l, T => ((Nat.blt 0 n && (b || (natsEq (Region.ready .any ops l) (firsts (.alt q x y)) && !(firsts (.alt q x y)).isEmpty))) && addsQ ops x y q) && (comp ops x true n l T && comp ops y true n l T)
  | .join t p, _, n, l, T => comp ops t false n l (some (tgt t n l)) && comp ops p false (tgt t n l).1 (tgt t n l).2 T

/-- A schedule's operations are put in. -/
def toSch (opsL : List Oper) : Pre → Option Sch
  | .fin => some .fin
  | .sil i p => match nth opsL i with
    | some o => silK i o (toSch opsL p)
    | none => none
  | .eff i ck p => match nth opsL i with
    | some o => effK i o (opsAt opsL ck) (toSch opsL p)
    | none => none
  | .alt q x y => altK q (toSch opsL x) (toSch opsL y)
  | .join t p => joinK (toSch opsL t) (toSch opsL p)

/-! ### a schedule is made (nobody leans on how) -/
/-- All silent operations that are ready, one behind the other. -/
def quiet (ops : Array Oper) : Nat → Array Bool → Array Bool
  | 0, l => l
  | f + 1, l => match pickSil ops l (Region.ready .any ops l) with
    | some i => quiet ops f (l.setIfInBounds i true)
    | none => l
def pref (orig r : List Nat) : Nat := match r.filter orig.contains with
  | i :: _ => i
  | [] => r.headD 0
/-- Where ways that part come together. -/
def target (ops : Array Oper) (orig : List Nat) : Nat → Array Bool → List Nat → Array Bool
  | 0, l, _ => l
  | f + 1, l, dn => match Region.ready .any ops l with
    | [] => l
    | r => bif (match r with
        | [j] => dn.all (fun d => waitsB .any ops 6 d j)
        | _ => false) then l else target ops orig f (quiet ops 100 (l.setIfInBounds (pref orig r) true)) (pref orig r :: dn)
/-- What the first way writes, if it only adds. -/
def wrote (ops : Array Oper) : Pre → Option (List Nat)
  | .fin => some []
  | .sil i p => wr1 ops[i]? (wrote ops p)
  | .eff i _ p => wr1 ops[i]? (wrote ops p)
  | .alt _ a _ => wrote ops a
  | .join t p => match wrote ops t, wrote ops p with
    | some l, some r => some (l ++ r)
    | _, _ => none
where wr1 : Option Oper → Option (List Nat) → Option (List Nat)
  | some o, some l => bif silB o.op || addB o.op then (match o.dst with
    | some d => some (d :: l)
    | none => some l) else none
  | _, _ => none
def wrote2 (ops : Array Oper) (a b : Pre) : Option (List Nat) := match wrote ops a, wrote ops b with
  | some l, some r => some (l ++ r)
  | _, _ => none
def chain (ops : Array Oper) : List Pre → Pre
  | [] => .fin
  | [p] => p
  | p :: r => (fun b => .alt (wrote2 ops p b) p b) (chain ops r)
def genT (ops : Array Oper) (T : List Bool) : Nat → Array Bool → Pre
  | 0, _ => .fin
  | f + 1, l => bif boolsEq l.toList T then .fin else match pickSil ops l (Region.ready .any ops l) with
    | some i => .sil i (genT ops T f (l.setIfInBounds i true))
    | none => chain ops ((Region.ready .any ops l).map fun k => .eff k (chkI ops l k 0 ops.toList) (genT ops T f (l.setIfInBounds k true)))
def genP (ops : Array Oper) : Nat → Array Bool → Pre
  | 0, _ => .fin
  | f + 1, l => match Region.ready .any ops l with
    | [] => .fin
    | r => match pickSil ops l r with
      | some i => .sil i (genP ops f (l.setIfInBounds i true))
      | none => match r with
        | [i] => .eff i (chkI ops l i 0 ops.toList) (genP ops f (l.setIfInBounds i true))
        | r => (fun T => .join (genT ops T.toList 100 l) (genP ops f T)) (target ops r 100 l [])
def preOf (ops : Array Oper) : Pre := genP ops 100 (Array.replicate ops.size false)
def goodP (ops : Array Oper) (p : Pre) : Bool := comp ops p false ops.size (Array.replicate ops.size false) none

/-! ### a schedule is run -/
def trK (i a : Nat) (es1 : ES) : Option (ES × List (Nat × Nat × Nat)) → Option (ES × List (Nat × Nat × Nat))
  | some (e, t) => some (e, (i, a, es1.h.n) :: t)
  | none => none
def runStep (i a : Nat) (chk : ES → Bool) (next : ES → Option (ES × List (Nat × Nat × Nat))) : Option ES → Option (ES × List (Nat × Nat × Nat))
  | some es1 => bif chk es1 then trK i a es1 (next es1) else none
  | none => none
def covA (nt N0 : Nat) (e1 e0 : ES) (ks : List Nat) : Option (List Nat) → Bool
  | none => covE nt N0 e1 e0 ks
  | some D => covQ N0 D e1 e0 ks
def runAlt (nt N0 : Nat) (q : Option (List Nat)) : Option (ES × List (Nat × Nat × Nat)) → Option (ES × List (Nat × Nat × Nat)) → Option (ES × List (Nat × Nat × Nat))
  | some (e0, t0), some (e1, t1) => match permE t1 t0 with
    | some ks => bif covA nt N0 e1 e0 ks q then some (e0, t0) else none
    | none => none
  | _, _ => none
def runJoin (next : ES → Option (ES × List (Nat × Nat × Nat))) : Option (ES × List (Nat × Nat × Nat)) → Option (ES × List (Nat × Nat × Nat))
  | some (e0, t0) => match next e0 with
    | some (e, t) => some (e, appE t0 t)
    | none => none
  | none => none
def runSch (E : Env) (nt : Nat) (call : CallF) (opsL : List Oper) (s : Sch) : ES → Option (ES × List (Nat × Nat × Nat)) :=
  Sch.rec (motive := fun _ => ES → Option (ES × List (Nat × Nat × Nat))) (fun es => some (es, []))
    (fun i o _ ih es => runStep i es.h.n (fun _ => true) ih (stepE E nt call opsL o es))
    (fun i o chk _ ih es => runStep i es.h.n (fun es1 => againsE E nt es1 chk) ih (stepE E nt call opsL o es))
    (fun q _ _ iha ihb es => runAlt nt es.h.n q (iha es) (ihb es))
    (fun _ _ iht ihn es => runJoin ihn (iht es)) s

def runO (E : Env) (nt : Nat) (call : CallF) (opsL : List Oper) (es : ES) : Option Sch → Option (ES × List (Nat × Nat × Nat))
  | some sch => runSch E nt call opsL sch es
  | none => none

section
variable {E : Env} {nt : Nat} {w0 : World} {S0 W0 : Nat → Prop} {m : Nat} {ρ0 ρ : Nat → Bk} {S : Nat → Prop} {w w' : World} {s : St} {a : Act} {es es' : ES}

theorem runStep.out {i x : Nat} {chk : ES → Bool} {next : ES → Option (ES × List (Nat × Nat × Nat))} {r : Option ES} {q : ES × List (Nat × Nat × Nat)} (h : runStep i x chk next r = some q) :
    ∃ es1 t, r = some es1 ∧ chk es1 = true ∧ next es1 = some (q.1, t) := by
  unfold runStep at h
  split at h
  · rename_i es1
    cases hc : chk es1 with
    | false => rw [hc] at h; cases h
    | true =>
      rw [hc] at h
      simp only [cond_true, trK] at h
      split at h
      · rename_i e t he
        have := some_eq h; subst this
        exact ⟨es1, t, rfl, hc, he⟩
      · cases h
  · cases h

/-- What holds behind a leaf. -/
def AtLeaf (P : Program) (ops : Array Oper) (Q : Exit → Act → World → Prop) (E : Env) (nt : Nat) (w0 : World) (S0 W0 : Nat → Prop) (m : Nat) (ρ0 : Nat → Bk) (T : Option (Nat × Array Bool)) (e : ES) : Prop :=
  ∀ ρ S w a, Inv E nt w0 S0 W0 m ρ0 ρ S w (e.st nt) a → match T with
    | none => Q .normal a w
    | some (k, T) => ∀ H, Closed .any ops T → DemE E ops T a H → wpAnyD P .any ops Q 3 H k T a w

theorem AtLeaf.cov {P : Program} {ops : Array Oper} {Q : Exit → Act → World → Prop} {T : Option (Nat × Array Bool)} {e0 e1 : ES} {N0 : Nat} {ks : List Nat} (hN : m ≤ N0) (h : AtLeaf P ops Q E nt w0 S0 W0 m ρ0 T e0) (hc : Cov N0 (e1.st nt) (e0.st nt) ks) : AtLeaf P ops Q E nt w0 S0 W0 m ρ0 T e1 :=
  fun ρ S w a i => h _ S w a (i.cov hN hc)

theorem demE_held {call : CallF} {ops : Array Oper} {listed : Array Bool} {H : List (Nat × (World → Prop))} {k : Nat} {a' : Act} {es1 : ES} {ρ' : Nat → Bk} {S' : Nat → Prop} (hE : E.Ok) (hd : DemE E ops listed a H) (hd' : DemE E ops (listed.setIfInBounds k true) a' H) (inv' : Inv E nt w0 S0 W0 m ρ0 ρ' S' w' (es1.st nt) a')
    (g4 : againsE E nt es1 (opsAt ops.toList (chkI ops listed k 0 ops.toList)) = true) : Held .any ops 3 H k w w' := by
  intro p hpm hnw hpw
  obtain ⟨d1, o', d2, d3⟩ := hd p hpm
  obtain ⟨_, o'', f2, f3⟩ := hd' p hpm
  rw [d2] at f2
  have := some_eq f2; subst this
  rcases f3 with f3 | ⟨f3, f4⟩
  · exact f3 w'
  · have hmem : o' ∈ opsAt ops.toList (chkI ops listed k 0 ops.toList) := opsAt.out (i := p.1) (by simpa using chkI.out (k := 0) (i := p.1) (os := ops.toList) (by simpa using d2) (by simpa using d1) (ldE_may f3) (by simpa using hnw)) (by simpa using d2)
    have ha := againsE.out g4 o' hmem
    unfold again2 at ha
    rw [f3] at ha
    simp only [cond_true] at ha
    split at ha
    · rename_i ty t' d hl
      obtain ⟨px, y, e1, e2, e3, e4⟩ := f4 ty t' d hl
      obtain ⟨q1, q2, q4⟩ := ldTmp.out hl
      split at ha
      · rename_i pv hpv
        split at ha
        · rename_i hu
          obtain ⟨y', y1, y2⟩ := slotE.out inv' hu
          rw [e2] at y1
          have := some_eq y1; subst this
          cases y2 with | tup _ _ => exact absurd rfl (e4 _)
        · rename_i u _ hu
          rw [q1] at ha
          simp only at ha
          split at ha
          · rename_i v hv
            obtain ⟨k1, k2⟩ := Bool.and_eq_true_iff.1 ha
            obtain ⟨px', p1, p2⟩ := slotE.out inv' hpv
            obtain ⟨y', y1, y2⟩ := slotE.out inv' hu
            rw [e1] at p1
            have := some_eq p1; subst this
            rw [e2] at y1
            have := some_eq y1; subst this
            obtain ⟨v', z, l1, l2, l3⟩ := loadVC.out hE inv' (loadE.of (k := fun q => q = v) hv rfl) p2
            subst l3
            have hle := (eqV.out v' u k2).1
            rw [ren_id 0 u] at hle
            have := detV.out u z y k1 (hle _ _ _ _ _ l2) y2
            subst this
            rw [e3]
            exact l1 w' (fun _ _ => rfl)
          · cases ha
        · cases ha
      · cases ha
    · cases ha

/-- A silent operation is taken first. -/
theorem sil_first {call : CallF} {ops : Array Oper} {Q : Exit → Act → World → Prop} {n i : Nat} {o : Oper} {listed : Array Bool} {H : List (Nat × (World → Prop))} {es1 : ES} (hE : E.Ok) (hns : Region.noSelect ops = true) (hQ : ∀ c a d v w, Q (.panic c) (Act.put a d v) w → Q (.panic c) a w)
    (inv : Inv E nt w0 S0 W0 m ρ0 ρ S w (es.st nt) a) (hc : Closed .any ops listed) (hd : DemE E ops listed a H) (hi1 : i ∈ Region.ready .any ops listed) (hi2 : ops[i]? = some o) (hi3 : silB o.op = true) (hi4 : Region.free .any ops listed i = true) (g2 : okPutL o.dst listed 0 ops.toList = true)
    (g3 : stepE E nt call ops.toList o es = some es1)
    (ih : ∀ (H : List (Nat × (World → Prop))) (a : Act), Inv E nt w0 S0 W0 m ρ0 ρ S w (es1.st nt) a → Closed .any ops (listed.setIfInBounds i true) → DemE E ops (listed.setIfInBounds i true) a H → wpAnyD E.P .any ops Q 3 H n (listed.setIfInBounds i true) a w) :
    wpAnyD E.P .any ops Q 3 H (n + 1) listed a w := by
  have hlt : i < listed.size := by
    have h0 := (mem_ready.1 hi1).1
    rcases Nat.lt_or_ge i listed.size with h' | h'
    · exact h'
    · simp [Array.getElem?_eq_none h'] at h0
  have hset : (listed.setIfInBounds i true).getD i false = true := by simp [hlt]
  rcases stepE.sil hE inv hi3 g3 with ⟨hw, v, x, k1, k2, k3, k4⟩ | ⟨hw, k2⟩
  · cases hl : ldE E o.op with
    | false =>
      refine wpAnyD_first (S := fun _ => True) (v := x) hi2 (Region.noSelect_spec hns) (fun c a w => hQ c a _ _ w) n listed a w hc (Region.free_spec hi2 hi4) hi1 (.inl ⟨hw, fun w' _ => k1 w' (fun e => by rw [hl] at e; cases e)⟩) trivial ?_
      refine ih _ _ k2 (hc.set hi1) (fun p hpm => ?_)
      rcases List.mem_cons.1 hpm with rfl | hpm
      · exact ⟨hset, o, hi2, .inl fun _ => trivial⟩
      · exact (hd.put (x := x) rfl g2) p hpm
    | true =>
      cases hlt' : ldTmp o with
      | none =>
        refine wpAnyD_first (S := fun w' => Same (Known ρ S (es.st nt).hp) w w') (v := x) hi2 (Region.noSelect_spec hns) (fun c a w => hQ c a _ _ w) n listed a w hc (Region.free_spec hi2 hi4) hi1 (.inl ⟨hw, fun w' hS => k1 w' (fun _ => hS)⟩) (fun _ _ => rfl) ?_
        refine ih _ _ k2 (hc.set hi1) (fun p hpm => ?_)
        rcases List.mem_cons.1 hpm with rfl | hpm
        · exact ⟨hset, o, hi2, .inr ⟨hl, fun ty t d e => by rw [hlt'] at e; cases e⟩⟩
        · exact (hd.put (x := x) rfl g2) p hpm
      | some q =>
        obtain ⟨ty, t, d⟩ := q
        obtain ⟨q1, q2, q4⟩ := ldTmp.out hlt'
        -- the operand's value
        have hop : (∃ p, slotE nt es t = some p) ∧ noTupB v = true := by
          unfold silE at k3
          rw [q1] at k3
          simp only [sil_load] at k3
          split at k3
          · rename_i p hp'
            refine ⟨⟨p, hp'⟩, ?_⟩
            split at k3
            · rename_i q hq
              cases hb : noTupB q with
              | false => rw [hb] at k3; cases k3
              | true =>
                rw [hb] at k3
                have := some_eq k3
                rw [← this]; exact hb
            · cases k3
          · cases k3
        obtain ⟨⟨p, hp'⟩, hnt⟩ := hop
        have hxt : ∀ ys, x ≠ .tuple ys := fun ys e => by
          subst e
          cases k4 with
          | d h => have := h.cellVal; cases this
          | tup _ _ => cases hnt
        obtain ⟨px, p1, p2⟩ := slotE.out inv hp'
        have hev : a.eval (.tmp t) = px := by simp [Act.eval, Array.getD_eq_getD_getElem?, p1]
        have hiff : ∀ w', (execOp a.eval o).run E.P w' = .ok (.value x) w' ↔ (Instr.loadAt ty px).run E.P w' = .ok x w' := fun w' => by
          simp only [execOp, q1, hev, Sem.run_bind]
          cases hrr : (Instr.loadAt ty px).run E.P w' with
          | halt y w'' => simp [Result.andThen]
          | ok y w'' =>
            simp only [Result.andThen_ok]
            constructor
            · intro e; injection e with e1 e2; injection e1 with e1; rw [e1, e2]
            · intro e; injection e with e1 e2; rw [e1, e2]; rfl
        have hdsz : d < a.tmps.size := by
          have hput := g3
          have : ∃ es2 v', putE nt o.dst v' es = some es2 := by
            unfold stepE at hput
            split at hput
            · rw [hi3] at hput
              simp only [cond_true, putK] at hput
              split at hput
              · exact ⟨_, _, hput⟩
              · cases hput
            · exact ⟨_, _, hput⟩
            · cases hput
          obtain ⟨es2, v', hput'⟩ := this
          rw [q2] at hput'
          simp only [putE] at hput'
          by_cases hdn : d < nt
          · rw [inv.nt]; exact hdn
          · rw [blt_f hdn] at hput'; cases hput'
        refine wpAnyD_first (S := fun w' => (Instr.loadAt ty px).run E.P w' = .ok x w') (v := x) hi2 (Region.noSelect_spec hns) (fun c a w => hQ c a _ _ w) n listed a w hc (Region.free_spec hi2 hi4) hi1 (.inl ⟨hw, fun w' hS => (hiff w').2 hS⟩) ((hiff w).1 (k1 w (fun _ _ _ => rfl))) ?_
        refine ih _ _ k2 (hc.set hi1) (fun p' hpm => ?_)
        rcases List.mem_cons.1 hpm with rfl | hpm
        · refine ⟨hset, o, hi2, .inr ⟨hl, fun ty' t' d' e => ?_⟩⟩
          rw [hlt'] at e
          have := some_eq e
          injection this with e1 e2
          injection e2 with e2 e3
          subst e1; subst e2; subst e3
          refine ⟨px, x, ?_, ?_, rfl, hxt⟩
          · rw [put_other fun e he => by rw [q2] at he; injection he with he; subst he; exact fun h => q4 h.symm]; exact p1
          · rw [q2]; simp [Act.put, hdsz]
        · exact (hd.put (x := x) rfl g2) p' hpm
  · refine wpAnyD_first (S := fun _ => True) (v := undef) hi2 (Region.noSelect_spec hns) (fun c a w => hQ c a _ _ w) n listed a w hc (Region.free_spec hi2 hi4) hi1 (.inr ⟨hw, rfl⟩) trivial ?_
    refine ih _ _ k2 (hc.set hi1) (fun p hpm => ?_)
    rcases List.mem_cons.1 hpm with rfl | hpm
    · exact ⟨hset, o, hi2, .inl fun _ => trivial⟩
    · exact (hd.put (x := undef) rfl g2) p hpm

theorem wpAnyD_each {P : Program} {ops : Array Oper} {Q : Exit → Act → World → Prop} {n : Nat} {l : Array Bool} {H : List (Nat × (World → Prop))} (hne : Region.ready .any ops l ≠ [])
    (h : ∀ k ∈ Region.ready .any ops l, wpOpX P ops Q k (fun a' w' => Held .any ops 3 H k w w' ∧ wpAnyD P .any ops Q 3 H n (l.setIfInBounds k true) a' w') a w) : wpAnyD P .any ops Q 3 H (n + 1) l a w :=
  ⟨fun e => absurd e hne, h⟩

/-- The first way's frame. -/
theorem toSch.adds {call : CallF} {ops : Array Oper} {D : List Nat} : ∀ (p : Pre) (sch : Sch), toSch ops.toList p = some sch → addsB ops D p = true → ∀ (es : ES) (r : ES × List (Nat × Nat × Nat)), runSch E nt call ops.toList sch es = some r → Adds D es r.1 := by
  intro p
  induction p with
  | fin =>
    intro sch hs _ es r h
    have := some_eq hs; subst this
    have := some_eq (show some (es, []) = some r from h); subst this
    exact .refl
  | sil i p ih =>
    intro sch hs hb es r h
    simp only [addsB, Bool.and_eq_true] at hb
    simp only [toSch] at hs
    rw [nth_eq, Array.getElem?_toList] at hs
    split at hs
    · rename_i o ho
      rw [ho] at hb
      simp only [Bool.and_eq_true] at hb
      unfold silK at hs
      split at hs
      · rename_i s1 hs1
        have := some_eq hs; subst this
        obtain ⟨es1, t, g1, _, g3⟩ := runStep.out (show runStep i es.h.n (fun _ => true) (runSch E nt call ops.toList s1) (stepE E nt call ops.toList o es) = some r from h)
        exact (stepE.adds g1 hb.1.2 hb.1.1).trans (ih _ hs1 hb.2 es1 (r.1, t) g3)
      · cases hs
    · cases hs
  | eff i ck p ih =>
    intro sch hs hb es r h
    simp only [addsB, Bool.and_eq_true] at hb
    simp only [toSch] at hs
    rw [nth_eq, Array.getElem?_toList] at hs
    split at hs
    · rename_i o ho
      rw [ho] at hb
      simp only [Bool.and_eq_true] at hb
      unfold effK at hs
      split at hs
      · rename_i s1 hs1
        have := some_eq hs; subst this
        obtain ⟨es1, t, g1, _, g3⟩ := runStep.out (show runStep i es.h.n (fun es1 => againsE E nt es1 (opsAt ops.toList ck)) (runSch E nt call ops.toList s1) (stepE E nt call ops.toList o es) = some r from h)
        exact (stepE.adds g1 hb.1.2 hb.1.1).trans (ih _ hs1 hb.2 es1 (r.1, t) g3)
      · cases hs
    · cases hs
  | alt q x y ihx ihy =>
    intro sch hs hb es r h
    simp only [toSch, altK] at hs
    split at hs
    · rename_i sa sb hsa hsb
      have := some_eq hs; subst this
      have h' : runAlt nt es.h.n q (runSch E nt call ops.toList sa es) (runSch E nt call ops.toList sb es) = some r := h
      unfold runAlt at h'
      split at h'
      · rename_i e0 t0 e1 t1 h0 h1
        split at h'
        · rename_i ks hks
          cases hcv : covA nt es.h.n e1 e0 ks q with
          | false => rw [hcv] at h'; cases h'
          | true =>
            rw [hcv] at h'
            have := some_eq h'; subst this
            exact ihx _ hsa hb es (e0, t0) h0
        · cases h'
      · cases h'
    · cases hs
  | join t p iht ihp =>
    intro sch hs hb es r h
    simp only [addsB, Bool.and_eq_true] at hb
    simp only [toSch, joinK] at hs
    split at hs
    · rename_i st sp hst hsp
      have := some_eq hs; subst this
      have h' : runJoin (runSch E nt call ops.toList sp) (runSch E nt call ops.toList st es) = some r := h
      unfold runJoin at h'
      split at h'
      · rename_i e0 t0 h0
        split at h'
        · rename_i e t1 h1
          have := some_eq h'; subst this
          exact (iht _ hst hb.1 es (e0, t0) h0).trans (ihp _ hsp hb.2 e0 (e, t1) h1)
        · cases h'
      · cases h'
    · cases hs

theorem comp.out {call : CallF} {ops : Array Oper} {Q : Exit → Act → World → Prop} (hE : E.Ok) (hC : CallOk E call) (hns : Region.noSelect ops = true) (hQ : ∀ c a d v w, Q (.panic c) (Act.put a d v) w → Q (.panic c) a w) :
    ∀ (p : Pre) (b : Bool) (n : Nat) (l : Array Bool) (T : Option (Nat × Array Bool)) (sch : Sch), comp ops p b n l T = true → toSch ops.toList p = some sch →
    ∀ (H : List (Nat × (World → Prop))) (ρ : Nat → Bk) (S : Nat → Prop) (w : World) (es : ES) (a : Act) (r : ES × List (Nat × Nat × Nat)),
      Inv E nt w0 S0 W0 m ρ0 ρ S w (es.st nt) a → Closed .any ops l → DemE E ops l a H → runSch E nt call ops.toList sch es = some r → AtLeaf E.P ops Q E nt w0 S0 W0 m ρ0 T r.1 →
      (b = false → wpAnyD E.P .any ops Q 3 H n l a w) ∧
      (∀ k ∈ firsts p, k ∈ Region.ready .any ops l → wpOpX E.P ops Q k (fun a' w' => Held .any ops 3 H k w w' ∧ wpAnyD E.P .any ops Q 3 H (n - 1) (l.setIfInBounds k true) a' w') a w) := by
  intro p
  induction p with
  | fin =>
    intro b n l T sch hcomp hsch H ρ S w es a r inv hc hd h hK
    have hl : leafOk ops n l T = true := hcomp
    have := some_eq hsch; subst this
    · have := some_eq (show some (es, []) = some r from h); subst this
      refine ⟨fun _ => ?_, fun k hk => by cases hk⟩
      cases T with
      | none =>
        have hr : Region.ready .any ops l = [] := by simpa [leafOk] using hl
        have hq := hK ρ S w a inv
        cases n with
        | zero => exact ⟨hr, hq⟩
        | succ n => exact ⟨fun _ => hq, by rw [hr]; simp⟩
      | some q =>
        obtain ⟨k, T⟩ := q
        simp only [leafOk, Bool.and_eq_true] at hl
        have e1 := Nat.eq_of_beq_eq_true hl.1
        have e2 : l = T := Array.ext' (boolsEq.out hl.2)
        subst e1; subst e2
        exact hK ρ S w a inv H hc hd
  | sil i p ih =>
    intro b n l T sch hcomp hsch H ρ S w es a r inv hc hd h hK
    simp only [comp] at hcomp
    split at hcomp
    · rename_i o ho
      · simp only [Bool.and_eq_true] at hcomp
        obtain ⟨⟨⟨b1, b2, b3⟩, b4, b5⟩, hcomp⟩ := hcomp
        have b1 := blt_o b1
        simp only [toSch] at hsch
        rw [nth_eq, Array.getElem?_toList, ho] at hsch
        simp only [silK] at hsch
        split at hsch
        · rename_i s1 hs1
          have := some_eq hsch; subst this
          obtain ⟨es1, t, g1, _, g3⟩ := runStep.out (show runStep i es.h.n (fun _ => true) (runSch E nt call ops.toList s1) (stepE E nt call ops.toList o es) = some r from h)
          refine ⟨fun _ => ?_, fun k hk => by cases hk⟩
          obtain ⟨n', rfl⟩ : ∃ n', n = n' + 1 := ⟨n - 1, by omega⟩
          exact sil_first hE hns hQ inv hc hd (by simpa using b4) ho b2 b3 b5 g1 fun H' a' i1 c1 d1 => (ih false _ _ _ _ hcomp hs1 H' ρ S w es1 a' (r.1, t) i1 c1 d1 g3 hK).1 rfl
        · cases hsch
    · cases hcomp
  | eff i ck p ih =>
    intro b n l T sch hcomp hsch H ρ S w es a r inv hc hd h hK
    simp only [comp] at hcomp
    split at hcomp
    · rename_i o ho
      · simp only [Bool.and_eq_true] at hcomp
        obtain ⟨⟨⟨⟨b1, b2⟩, b3⟩, b4⟩, hcomp⟩ := hcomp
        have b4 := natsEq.out b4
        have b1 := blt_o b1
        simp only [toSch] at hsch
        rw [nth_eq, Array.getElem?_toList, ho] at hsch
        simp only [effK] at hsch
        split at hsch
        · rename_i s1 hs1
          have := some_eq hsch; subst this
          obtain ⟨es1, t, g1, g2, g3⟩ := runStep.out (show runStep i es.h.n (fun es1 => againsE E nt es1 (opsAt ops.toList ck)) (runSch E nt call ops.toList s1) (stepE E nt call ops.toList o es) = some r from h)
          obtain ⟨n', rfl⟩ : ∃ n', n = n' + 1 := ⟨n - 1, by omega⟩
          have each : i ∈ Region.ready .any ops l → wpOpX E.P ops Q i (fun a' w' => Held .any ops 3 H i w w' ∧ wpAnyD E.P .any ops Q 3 H n' (l.setIfInBounds i true) a' w') a w := fun hi => by
            unfold wpOpX
            simp only [ho]
            refine stepE.out hE hC inv g1 fun ρ' S' w' a' inv' ⟨x, hx⟩ => ?_
            have hd' : DemE E ops (l.setIfInBounds i true) a' H := hd.put hx b3
            exact ⟨demE_held (call := call) hE hd hd' inv' (b4 ▸ g2), (ih false _ _ _ _ hcomp hs1 H ρ' S' w' es1 a' (r.1, t) inv' (hc.set hi) hd' g3 hK).1 rfl⟩
          refine ⟨fun hbf => ?_, fun k hk hkr => ?_⟩
          · subst hbf
            have hr : Region.ready .any ops l = [i] := natsEq.out (by simpa using b2)
            refine wpAnyD_each (by rw [hr]; simp) fun k hk => ?_
            have hk' := hk
            rw [hr] at hk'
            have : k = i := by simpa using hk'
            subst this
            exact each hk
          · have : k = i := by simpa [firsts] using hk
            subst this
            exact each hkr
        · cases hsch
    · cases hcomp
  | alt q x y ihx ihy =>
    intro b n l T sch hcomp hsch H ρ S w es a r inv hc hd h hK
    simp only [comp, Bool.and_eq_true] at hcomp
    obtain ⟨⟨⟨b1, b2⟩, b3⟩, hcx, hcy⟩ := hcomp
    · have b1 := blt_o b1
      simp only [toSch, altK] at hsch
      split at hsch
      · rename_i sa sb hsa hsb
        have := some_eq hsch; subst this
        have h' : runAlt nt es.h.n q (runSch E nt call ops.toList sa es) (runSch E nt call ops.toList sb es) = some r := h
        unfold runAlt at h'
        split at h'
        · rename_i e0 t0 e1 t1 h0 h1
          split at h'
          · rename_i ks hks
            cases hcv : covA nt es.h.n e1 e0 ks q with
            | false => rw [hcv] at h'; cases h'
            | true =>
              rw [hcv] at h'
              have := some_eq h'; subst this
              have hN : m ≤ es.h.n := by have := inv.le; rwa [show (es.st nt).hp.length = es.h.n from es.h.len] at this
              have hcov : Cov es.h.n (e1.st nt) (e0.st nt) ks := by
                cases q with
                | none => exact covE.out hcv
                | some D =>
                  simp only [addsQ, Bool.and_eq_true] at b3
                  exact covQ.out inv (toSch.adds y _ hsb b3.2 es (e1, t1) h1) (toSch.adds x _ hsa b3.1 es (e0, t0) h0) hcv
              have ga := (ihx true _ _ _ _ hcx hsa H ρ S w es a (e0, t0) inv hc hd h0 hK).2
              have gb := (ihy true _ _ _ _ hcy hsb H ρ S w es a (e1, t1) inv hc hd h1 (hK.cov hN hcov)).2
              have each : ∀ k ∈ firsts (.alt q x y), k ∈ Region.ready .any ops l → wpOpX E.P ops Q k (fun a' w' => Held .any ops 3 H k w w' ∧ wpAnyD E.P .any ops Q 3 H (n - 1) (l.setIfInBounds k true) a' w') a w := fun k hk hr => by
                rcases List.mem_append.1 (show k ∈ firsts x ++ firsts y from hk) with hk | hk
                · exact ga k hk hr
                · exact gb k hk hr
              refine ⟨fun hbf => ?_, each⟩
              subst hbf
              simp only [Bool.false_or, Bool.and_eq_true] at b2
              have hr := natsEq.out b2.1
              obtain ⟨n', rfl⟩ : ∃ n', n = n' + 1 := ⟨n - 1, by omega⟩
              refine wpAnyD_each (fun e => ?_) fun k hk => each k (by rw [← hr]; exact hk) hk
              rw [hr] at e
              rw [e] at b2
              simp at b2
          · cases h'
        · cases h'
      · cases hsch
  | join t p iht ihp =>
    intro b n l T sch hcomp hsch H ρ S w es a r inv hc hd h hK
    simp only [comp, Bool.and_eq_true] at hcomp
    obtain ⟨hct, hcp⟩ := hcomp
    simp only [toSch, joinK] at hsch
    split at hsch
    · rename_i st sp hst hsp
      have := some_eq hsch; subst this
      have h' : runJoin (runSch E nt call ops.toList sp) (runSch E nt call ops.toList st es) = some r := h
      unfold runJoin at h'
      split at h'
      · rename_i e0 t0 h0
        split at h'
        · rename_i e t1 h1
          have := some_eq h'; subst this
          refine ⟨fun _ => ?_, fun k hk => by cases hk⟩
          refine (iht false _ _ _ _ hct hst H ρ S w es a (e0, t0) inv hc hd h0 ?_).1 rfl
          intro ρ' S' w' a' i' H' hc' hd'
          exact (ihp false _ _ _ _ hcp hsp H' ρ' S' w' e0 a' (e, t1) i' hc' hd' h1 hK).1 rfl
        · cases h'
      · cases h'
    · cases hsch

end
end
end Go.E
