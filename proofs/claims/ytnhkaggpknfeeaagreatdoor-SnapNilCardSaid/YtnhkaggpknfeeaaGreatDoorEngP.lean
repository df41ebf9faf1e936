/-
  THE ENGINE, PART P: a body in pieces, each ending in a state that is told anew; contracts of calls that are handed no chunk, and hand none on.
-/
import Derived.Test.YtnhkaggpknfeeaaGreatDoorEngG
import Derived.Below
namespace Go.E
open Go
noncomputable section
section
variable {E : Env} {nt : Nat} {w0 : World} {S0 W0 : Nat → Prop} {m : Nat} {ρ0 ρ : Nat → Bk} {S : Nat → Prop} {w w' : World} {s : St} {a : Act} {es es' : ES}

/-! ### pieces -/
def seqsE : Code → List Code
  | .seq x y => seqsE x ++ seqsE y
  | c => [c]
def codeLE (E : Env) (nt : Nat) (call : CallF) (fk : Option FuncId) (fuel : Nat) (T : Tr (Option Pre)) : List Code → ES → Option (X × ES)
  | [], es => some (.normal, es)
  | c :: cs, es => seqK (codeE E nt call fk fuel T c es) (codeLE E nt call fk fuel T cs)

/-- What a list of codes leads to. -/
def wpL (P : Program) (Q : Exit → Act → World → Prop) : List Code → Act → World → Prop
  | [] => fun a w => Q .normal a w
  | c :: cs => fun a w => c.wpIn (Fw none) 0 P (Exit.then (wpL P Q cs) Q) a w

theorem then_mono {K K' : Act → World → Prop} {Q : Exit → Act → World → Prop} (h : ∀ a w, K a w → K' a w) : ∀ e a w, Exit.then K Q e a w → Exit.then K' Q e a w := by
  intro e a w q
  cases e <;> first | exact h _ _ q | exact q

theorem wpL_app {P : Program} {Q : Exit → Act → World → Prop} : ∀ {cs ds : List Code} {a : Act} {w : World}, wpL P Q (cs ++ ds) a w → wpL P (Exit.then (wpL P Q ds) Q) cs a w
  | [], _, _, _, h => h
  | c :: cs, ds, a, w, h => by
    refine wpIn_mono (show c.wpIn (Fw none) 0 P (Exit.then (wpL P Q (cs ++ ds)) Q) a w from h) fun e a w q => ?_
    cases e with
    | normal => exact wpL_app q
    | _ => exact q

theorem wpL_code {P : Program} : ∀ (c : Code) {Q : Exit → Act → World → Prop} {a : Act} {w : World}, wpL P Q (seqsE c) a w → c.wpIn (Fw none) 0 P Q a w := by
  intro c
  induction c with
  | seq x y ihx ihy =>
    intro Q a w h
    simp only [seqsE] at h
    exact wpIn_seq (wpIn_mono (ihx (wpL_app h)) (then_mono fun a w h => ihy h))
  | _ =>
    intro Q a w h
    simp only [seqsE, wpL] at h
    refine wpIn_mono h fun e a w q => ?_
    cases e <;> exact q

/-- From es the codes lead to es', and are left so. -/
def Runs (E : Env) (nt m : Nat) (cs : List Code) (es : ES) (x : X) (es' : ES) : Prop :=
  ∀ (w0 : World) (S0 W0 : Nat → Prop) (ρ0 : Nat → Bk) (Q : Exit → Act → World → Prop) (ρ : Nat → Bk) (S : Nat → Prop) (w : World) (a : Act), Inv E nt w0 S0 W0 m ρ0 ρ S w (es.st nt) a →
    (∀ ρ S w a, Inv E nt w0 S0 W0 m ρ0 ρ S w (es'.st nt) a → Q x.exit? a w) → wpL E.P Q cs a w

theorem Runs.of {call : CallF} {f : FuncId} {fuel : Nat} {T : Tr (Option Pre)} {x : X} (hE : E.Ok) (hC : CallOk E call) (hM : E.P.follows .mixedOrders = true) : ∀ {cs : List Code} {es : ES}, (∀ c ∈ cs, drawsOk T c = true) → codeLE E nt call (some f) fuel T cs es = some (x, es') → Runs E nt m cs es x es'
  | [], es, _, h => by
    have := some_eq h
    injection this with e1 e2
    subst e1; subst e2
    exact fun w0 S0 W0 ρ0 Q ρ S w a inv hK => hK _ _ _ _ inv
  | c :: cs, es, hT, h => by
    intro w0 S0 W0 ρ0 Q ρ S w a inv hK
    simp only [codeLE, seqK] at h
    have hc : Mode (some f) none T c := ⟨rfl, hT c List.mem_cons_self⟩
    split at h
    · rename_i es1 h1
      refine codeE.out hE hC hM c hc _ ρ S w es a _ es1 inv h1 fun ρ S w a i => ?_
      exact Runs.of hE hC hM (fun c hc => hT c (List.mem_cons_of_mem _ hc)) h _ _ _ _ _ _ _ _ _ i hK
    · rename_i j es1 h1
      have := some_eq h
      injection this with e1 e2
      subst e1; subst e2
      exact codeE.out hE hC hM c hc _ ρ S w es a _ es1 inv h1 fun ρ S w a i => hK _ _ _ _ i
    · rename_i es1 h1
      have := some_eq h
      injection this with e1 e2
      subst e1; subst e2
      exact codeE.out hE hC hM c hc _ ρ S w es a _ es1 inv h1 fun ρ S w a i => hK _ _ _ _ i
    · cases h

theorem Runs.app {cs ds : List Code} {es1 : ES} {x : X} (h : Runs E nt m cs es .normal es1) (k : Runs E nt m ds es1 x es') : Runs E nt m (cs ++ ds) es x es' := by
  intro w0 S0 W0 ρ0 Q ρ S w a inv hK
  have key : ∀ (cs : List Code) (a : Act) (w : World), wpL E.P (Exit.then (wpL E.P Q ds) Q) cs a w → wpL E.P Q (cs ++ ds) a w := by
    intro cs
    induction cs with
    | nil => intro a w h; exact h
    | cons c cs ih =>
      intro a w h
      refine wpIn_mono (show c.wpIn (Fw none) 0 E.P (Exit.then (wpL E.P (Exit.then (wpL E.P Q ds) Q) cs) (Exit.then (wpL E.P Q ds) Q)) a w from h) fun e a w q => ?_
      cases e with
      | normal => exact ih _ _ q
      | _ => exact q
  exact key cs a w (h _ _ _ _ (Exit.then (wpL E.P Q ds) Q) _ _ _ _ inv fun ρ S w a i => k _ _ _ _ _ _ _ _ _ i hK)

/-- A piece's end is told anew: what is no more needed is left out. -/
theorem Runs.cov {cs : List Code} {x : X} {es1 es2 : ES} {M : Nat} {ks : List Nat} (h : Runs E nt m cs es x es1) (hM : m ≤ M) (hc : covE nt M es1 es2 ks = true) : Runs E nt m cs es x es2 :=
  fun w0 S0 W0 ρ0 Q ρ S w a inv hK => h _ _ _ _ Q _ _ _ _ inv fun _ S w a i => hK _ S w a (i.cov hM (covE.out hc))

def pieceE (E : Env) (nt M : Nat) (call : CallF) (f : FuncId) (fuel : Nat) (T : Tr (Option Pre)) (cs : List Code) (es es2 : ES) (ks : List Nat) : Bool := match codeLE E nt call (some f) fuel T cs es with
  | some (.normal, es1) => covE nt M es1 es2 ks
  | _ => false
theorem pieceE.out {call : CallF} {f : FuncId} {fuel M : Nat} {T : Tr (Option Pre)} {cs : List Code} {es2 : ES} {ks : List Nat} (hE : E.Ok) (hC : CallOk E call) (hM : E.P.follows .mixedOrders = true) (hT : ∀ c ∈ cs, drawsOk T c = true) (hm : m ≤ M) (h : pieceE E nt M call f fuel T cs es es2 ks = true) :
    Runs E nt m cs es .normal es2 := by
  unfold pieceE at h
  split at h
  · rename_i es1 h1
    exact (Runs.of hE hC hM hT h1).cov hm h
  · cases h

theorem draws_seqs {T : Tr (Option Pre)} : ∀ {c : Code}, drawsOk T c = true → ∀ d ∈ seqsE c, drawsOk T d = true := by
  intro c
  induction c with
  | seq x y ihx ihy =>
    intro h d hd
    simp only [drawsOk, Bool.and_eq_true] at h
    rcases List.mem_append.1 hd with hd | hd
    · exact ihx h.1 d hd
    · exact ihy h.2 d hd
  | _ => intro h d hd; simp only [seqsE, List.mem_singleton] at hd; subst hd; exact h

theorem cutL {α : Type} (l : List α) (a k : Nat) : l.drop a = (l.drop a).take k ++ l.drop (a + k) := by
  rw [← List.drop_drop]; exact (List.take_append_drop k _).symm

/-! ### a function's contract -/
/-- What a call comes to. -/
def CallsTo (E : Env) (f : FuncId) (args : List V) (h : HS) (v : V) (h' : HS) : Prop := FOk E.P f ∧ ∀ (ρ : Nat → Bk) (S : Nat → Prop) (w : World) (xs : List Value), RVs ρ h.l.length S w args xs → Heap ρ S w h.l →
  (∀ g ds, look g E.G = some ds → RV ρ 0 S w ds (.pointer (some ⟨g, 0, none⟩))) → Calls E.P f xs.toArray w (PostE h.l.length ρ S w h.l v h'.l)

def startE (fn : Func) (args : List V) (h : HS) : Option ES := match initE args 0 (Tr.mk none 64 fn.ntmps) with
  | some sl => bif Nat.ble args.length fn.ntmps && Nat.ble fn.results.toList.length 4 then some ⟨sl, h, []⟩ else none
  | none => none

theorem CallsTo.of {F : FuncId → Option (Func × Tr (Option Pre))} {f : FuncId} {fn : Func} {T : Tr (Option Pre)} {c : Code} {args : List V} {h : HS} {es0 es1 : ES} {x : X} {vs : List V} (hE : E.Ok) (hF : FnOk E F) (hfn : F f = some (fn, T)) (hb : fn.body = some c)
    (h0 : startE fn args h = some es0) (hr : Runs E fn.ntmps h.l.length (seqsE c) es0 x es1) (hx : ∀ j, x ≠ .exit j) (hdf : es1.df = []) (hv : resE E fn.ntmps es1 fn.results.toList = some vs) : CallsTo E f args h (tupV vs) es1.h := by
  obtain ⟨p1, p2, p3⟩ := hF f fn T hfn
  unfold startE at h0
  split at h0
  · rename_i sl hsl
    cases hcond : (Nat.ble args.length fn.ntmps && Nat.ble fn.results.toList.length 4) with
    | false => rw [hcond] at h0; cases h0
    | true =>
    rw [hcond] at h0
    simp only [cond_true] at h0
    have := some_eq h0; subst this
    obtain ⟨q1, q2⟩ := Bool.and_eq_true_iff.1 hcond
    have q1 := Nat.le_of_ble_eq_true q1
    have q2 := Nat.le_of_ble_eq_true q2
    refine ⟨⟨fn, p1, p2, by simp [hb]⟩, fun ρ S w xs hx' hh hg => ?_⟩
    have hlen := hx'.1
    have inv0 : Inv E fn.ntmps w S (Wr ρ h.l) h.l.length ρ ρ S w ((⟨sl, h, []⟩ : ES).st fn.ntmps) { tmps := xs.toArray ++ Array.replicate (fn.ntmps - xs.toArray.size) undef, defers := [] } := by
      refine ⟨fun i u hu => ?_, hh, ⟨rfl, rfl, rfl, Nat.le_refl _, fun _ _ _ => rfl, fun b hb => .inl hb⟩, fun _ _ => rfl, Nat.le_refl _, fun _ h => h, fun c ch hc => .inr ⟨c, ch, hc, rfl⟩, hg, rfl, by simp; omega⟩
      rw [ES.look] at hu
      split at hu
      · have := initE.out hsl i
        simp only at hu
        rw [this, Tr.get_mk] at hu
        split at hu
        · rename_i hi
          simp only [Nat.sub_zero] at hu
          have hi' : i < xs.length := by omega
          refine ⟨xs[i], ?_, ?_⟩
          · rw [Array.getElem?_append_left (by simpa using hi')]
            simp [hi']
          · have := hx'.2 i u _ hu (List.getElem?_eq_getElem hi')
            exact this
        · cases hu
      · cases hu
    refine calls_of_wp p1 hb ((wpIn_wide (n := 0)).1 (wpL_code c (hr _ _ _ _ (bodyPost E.P fn _) _ _ _ _ inv0 fun ρ' S' w' a' i => ?_)))
    have hd : a'.defers = [] := by
      have hd' : RDf ρ' (es1.st fn.ntmps).hp.length S' w' es1.df a'.defers := i.defers
      rw [hdf] at hd'
      exact hd'
    obtain ⟨vs', zs, h1, h2, h3, h4⟩ := retsK.out hE (resE.of (k := fun q => q = vs) hv rfl) i
    subst h4
    have hres := results_run (P := E.P) (rs := fn.results.toList) (fn := fn) (by simp) q2 (by rw [← h1.1, h2]) (fun i r x => h3 i r x)
    have hp := post_of rfl i (tup_rv h1)
    cases x with
    | normal => exact ⟨hd, _, hres, hp⟩
    | ret => exact ⟨hd, _, hres, hp⟩
    | exit j => exact absurd rfl (hx j)
  · cases h0

theorem CallsTo.eval {call : CallF} {f : FuncId} {args : List V} {h h' : HS} {v : V} {nd : Bool} (hC : CallOk E call) (e : call.fn f args h = some (v, h', nd)) : CallsTo E f args h v h' :=
  ⟨(hC.fn _ _ _ _ _ _ e).1, fun ρ S w xs hx hh hg => ((hC.fn _ _ _ _ _ _ e).2 ρ S w xs hx hh hg).1⟩

/-- The last piece of a body. -/
def lastE (E : Env) (nt : Nat) (call : CallF) (f : FuncId) (fuel : Nat) (T : Tr (Option Pre)) (cs : List Code) (rs : List ResultVar) (es : ES) : Option (V × HS) := match codeLE E nt call (some f) fuel T cs es with
  | some (.exit _, _) => none
  | some (_, es1) => match es1.df with
    | [] => match resE E nt es1 rs with
      | some vs => some (tupV vs, es1.h)
      | none => none
    | _ => none
  | none => none
theorem CallsTo.last {F : FuncId → Option (Func × Tr (Option Pre))} {call : CallF} {f : FuncId} {fn : Func} {T : Tr (Option Pre)} {c : Code} {args : List V} {h h' : HS} {es0 es : ES} {pre cs : List Code} {v : V} {fuel : Nat} (hE : E.Ok) (hC : CallOk E call) (hM : E.P.follows .mixedOrders = true) (hF : FnOk E F) (hfn : F f = some (fn, T)) (hb : fn.body = some c)
    (h0 : startE fn args h = some es0) (hs : seqsE c = pre ++ cs) (hr : Runs E fn.ntmps h.l.length pre es0 .normal es) (hl : lastE E fn.ntmps call f fuel T cs fn.results.toList es = some (v, h')) : CallsTo E f args h v h' := by
  have hT : ∀ d ∈ cs, drawsOk T d = true := fun d hd => draws_seqs ((hF f fn T hfn).2.2 c hb) d (by rw [hs]; exact List.mem_append_right _ hd)
  unfold lastE at hl
  split at hl
  · cases hl
  · rename_i x es1 hne h1
    split at hl
    · rename_i hdf
      split at hl
      · rename_i vs hvs
        have := some_eq hl
        injection this with e1 e2
        subst e1; subst e2
        have hr2 := hr.app (Runs.of (f := f) hE hC hM hT h1)
        rw [← hs] at hr2
        exact CallsTo.of hE hF hfn hb h0 hr2 (fun j hj => hne j hj) hdf hvs
      · cases hl
    · cases hl
  · cases hl
/-- A whole call, its own calls by what is at hand. -/
def wholeE (E : Env) (call : CallF) (f : FuncId) (fuel : Nat) (T : Tr (Option Pre)) (fn : Func) (args : List V) (h : HS) : Option (V × HS) := match fn.body with
  | some c => match startE fn args h with
    | some es0 => lastE E fn.ntmps call f fuel T (seqsE c) fn.results.toList es0
    | none => none
  | none => none
theorem CallsTo.whole {F : FuncId → Option (Func × Tr (Option Pre))} {call : CallF} {f : FuncId} {fn : Func} {T : Tr (Option Pre)} {args : List V} {h h' : HS} {v : V} {fuel : Nat} (hE : E.Ok) (hC : CallOk E call) (hM : E.P.follows .mixedOrders = true) (hF : FnOk E F) (hfn : F f = some (fn, T))
    (e : wholeE E call f fuel T fn args h = some (v, h')) : CallsTo E f args h v h' := by
  unfold wholeE at e
  split at e
  · rename_i c hb
    split at e
    · rename_i es0 h0
      exact CallsTo.last (pre := []) hE hC hM hF hfn hb h0 rfl (Runs.of (call := call) (f := f) (fuel := fuel) (T := T) hE hC hM (fun c hc => by simp at hc) rfl) e
    · cases e
  · cases e
def isTrueL : Option (V × HS) → Bool
  | some (.d (.v (.bool true)), _) => true
  | _ => false
theorem isTrueL.out {r : Option (V × HS)} (h : isTrueL r = true) : ∃ h', r = some (V.bool true, h') := by
  unfold isTrueL at h
  split at h
  · exact ⟨_, rfl⟩
  · cases h
def isTrueE : Option (V × HS × Bool) → Bool
  | some (.d (.v (.bool true)), _, _) => true
  | _ => false
theorem isTrueE.out {r : Option (V × HS × Bool)} (h : isTrueE r = true) : ∃ h' nd, r = some (V.bool true, h', nd) := by
  unfold isTrueE at h
  split at h
  · exact ⟨_, _, rfl⟩
  · cases h

/-! ### calls that are handed no chunk, and hand none on -/
def PureC (E : Env) (f : FuncId) (args : List V) (v : V) : Prop := FOk E.P f ∧ ∀ (ρ : Nat → Bk) (S : Nat → Prop) (w : World) (xs : List Value), RVs ρ 0 S w args xs → (∀ b, S b → b < w.heap.size) →
  (∀ g ds, look g E.G = some ds → RV ρ 0 S w ds (.pointer (some ⟨g, 0, none⟩))) → Calls E.P f xs.toArray w (PostE 0 ρ S w [] v [])

theorem Heap.nil (h : ∀ b, S b → b < w.heap.size) : Heap ρ S w [] := ⟨fun c ch hc => by simp at hc, fun c ch hc => by simp at hc, fun c c' ch ch' hc => by simp at hc, h⟩

theorem PureC.of {f : FuncId} {args : List V} {v : V} {h' : HS} (h : CallsTo E f args ⟨.e, 0⟩ v h') (hv : v.okN 0 = true) : PureC E f args v := by
  refine ⟨h.1, fun ρ S w xs hx hS hg => (h.2 ρ S w xs hx (Heap.nil hS) hg).mono ?_⟩
  rintro e w' ⟨x, ρ', S', rfl, h1, h2, h3, h4, h5, h6, h7⟩
  refine ⟨x, ρ', S', rfl, ?_, Heap.nil h2.old, h3, fun c hc => absurd hc (by simp), Nat.le_refl _, h6, fun c ch hc => by simp at hc⟩
  have := V.ren_both (N := h'.l.length) (n := 0) (σ := fun c => c) v x (by rw [ren_id 0 v]; exact h1) hv
  exact this

theorem okN_some {N : Nat} {ρ' : Nat → Bk} {v : V} {x : Value} (h : RV ρ 0 S w v x) : RV ρ' N S w v x := h.mono (Nat.zero_le _) (fun _ h => absurd h (by omega)) (fun _ h => h) (fun _ _ => rfl)
theorem okL_some {N : Nat} {ρ' : Nat → Bk} {vs : List V} {xs : List Value} (h : RVs ρ 0 S w vs xs) : RVs ρ' N S w vs xs := h.mono (Nat.zero_le _) (fun _ h => absurd h (by omega)) (fun _ h => h) (fun _ _ => rfl)

def findP (f : FuncId) (args : List V) : List (FuncId × List V × V) → Option V
  | [] => none
  | (g, us, v) :: r => bif Nat.beq f g && eqL (fun c => c) 0 args us then some v else findP f args r
/-- Calls by contracts, and else by the evaluator. -/
def withP (L : List (FuncId × List V × V)) (call : CallF) : CallF := ⟨fun f args h => match findP f args L with
    | some v => some (v, h, false)
    | none => call.fn f args h, call.yl⟩
theorem findP.out {f : FuncId} {args : List V} {v : V} : ∀ {L : List (FuncId × List V × V)}, findP f args L = some v → ∃ us, (f, us, v) ∈ L ∧ eqL (fun c => c) 0 args us = true
  | [], h => by cases h
  | (g, us, u) :: r, h => by
    unfold findP at h
    cases hb : (Nat.beq f g && eqL (fun c => c) 0 args us) with
    | true =>
      rw [hb] at h
      have := some_eq h; subst this
      obtain ⟨h1, h2⟩ := Bool.and_eq_true_iff.1 hb
      have := Nat.eq_of_beq_eq_true h1; subst this
      exact ⟨us, List.mem_cons_self, h2⟩
    | false =>
      rw [hb] at h
      obtain ⟨us', h1, h2⟩ := findP.out h
      exact ⟨us', List.mem_cons_of_mem _ h1, h2⟩

theorem withP.ok {L : List (FuncId × List V × V)} {call : CallF} (hL : ∀ p ∈ L, PureC E p.1 p.2.1 p.2.2) (hC : CallOk E call) : CallOk E (withP L call) := by
  refine ⟨fun f args h v h' nd e => ?_, hC.yl⟩
  simp only [withP] at e
  split at e
  · rename_i u hu
    have := some_eq e
    injection this with e1 e2
    injection e2 with e2 e3
    subst e1; subst e2; subst e3
    obtain ⟨us, h1, h2⟩ := findP.out hu
    obtain ⟨c1, c2⟩ := hL _ h1
    refine ⟨c1, fun ρ S w xs hx hh hg => ⟨?_, fun hf => by cases hf⟩⟩
    obtain ⟨l1, l2⟩ := eqL.out h2
    have hx' : RVs ρ 0 S w us xs := renL_both (N := h.l.length) (σ := fun c => c) (vLeL.out l1 hx) l2
    refine (c2 ρ S w xs hx' hh.old hg).mono ?_
    rintro e w' ⟨x, ρ', S', rfl, h1, h2, h3, h4, h5, h6, h7⟩
    have hblk : ∀ b, b < w.heap.size → w'.heap[b]? = w.heap[b]? := fun b hb => h3.blk b hb fun ⟨c, ch, hc, _⟩ => by simp at hc
    have hS : Same S w w' := fun b hb => hblk b (hh.old b hb)
    refine ⟨x, ρ, S', rfl, okN_some h1, ⟨fun c ch hc => (hh.at_ c ch hc).mono (Nat.le_refl _) (fun _ _ => rfl) h6 hS rfl (hblk _ (hh.at_ c ch hc).lt), fun c ch hc hs => ?_, hh.inj, h2.old⟩,
      ⟨h3.os, h3.tape, h3.output, h3.size, fun b hb _ => hblk b hb, h3.per⟩, fun _ _ => rfl, Nat.le_refl _, h6, fun c ch hc => .inr ⟨c, ch, hc, rfl⟩⟩
    rcases h3.per _ hs with hs | hs
    · exact hh.out c ch hc hs
    · exact absurd (hh.at_ c ch hc).lt (by omega)
  · exact hC.fn _ _ _ _ _ _ e

/-- A law: it returns true, and turns nothing of what was there. -/
theorem CallsTo.law {f : FuncId} {args : List V} {xs : List Value} {h' : HS} (h : CallsTo E f args ⟨.e, 0⟩ (V.bool true) h') (hx : RVs ρ 0 S w args xs) (hS : ∀ b, S b → b < w.heap.size) (hg : ∀ g ds, look g E.G = some ds → RV ρ 0 S w ds (.pointer (some ⟨g, 0, none⟩))) :
    Calls E.P f xs.toArray w fun e w' => e = .returned (.bool true) ∧ RowKit.Below w.heap.size w w' := by
  refine (h.2 ρ S w xs hx (Heap.nil hS) hg).mono ?_
  rintro e w' ⟨x, ρ', S', rfl, h1, h2, h3, h4, h5, h6, h7⟩
  exact ⟨congrArg _ (RV.scalar h1).symm, h3.os, h3.tape, h3.output, h3.size, fun b hb => h3.blk b hb fun ⟨c, ch, hc, _⟩ => by simp [HS.l] at hc⟩

end
end
end Go.E
