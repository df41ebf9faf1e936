/-
  THE ENGINE, PART C: the evaluator: slices of parts, maps that are written, calls, calls put off; one operation; regions in the order of the text.
-/
import Derived.Test.YtnhkaggpknfeeaaGreatDoorEngZ
import Derived.Test.YtnhkaggpknfeeaaGreatDoorEngO
import Derived.RangeFuncRecord
namespace Go.E
open Go
noncomputable section

theorem appK.mk' {α : Type} : ∀ {l r : List α} {k : List α → Prop}, k (l ++ r) → appK l r k
  | [], _, _, h => h
  | x :: l, _, k, h => appK.mk' (l := l) (k := fun q => k (x :: q)) h

/-- Blocks of chunks that are there. -/
def Wr (ρ : Nat → Bk) (hp : List (Option Ch)) (b : Nat) : Prop := ∃ c ch, hp[c]? = some (some ch) ∧ b = (ρ c).b

/-- How a call ends that was handed all chunks. -/
def PostE (n : Nat) (ρ : Nat → Bk) (S : Nat → Prop) (w : World) (hp : List (Option Ch)) (v : V) (hp' : List (Option Ch)) (e : Ending) (w' : World) : Prop :=
  ∃ x ρ' S', e = .returned x ∧ RV ρ' hp'.length S' w' v x ∧ Heap ρ' S' w' hp' ∧ Hist w S (Wr ρ hp) S' w' ∧ (∀ c, c < n → ρ' c = ρ c) ∧ n ≤ hp'.length ∧ (∀ b, S b → S' b) ∧
    (∀ c ch, hp'[c]? = some (some ch) → w.heap.size ≤ (ρ' c).b ∨ Wr ρ hp (ρ' c).b)

/-- Calls of functions; calls of a range's yield. -/
structure CallF where
  fn : FuncId → List V → HS → Option (V × HS × Bool)
  yl : Nat → List V → HS → Option (V × HS)

/-- A round's slots as it begins. -/
def roundTmps (r : Loop) (xs : List Value) : Array Value := (r.params.zip xs.toArray).foldl (fun tmps (t, a) => tmps.setIfInBounds t a) r.tmps

/-- What the evaluator's calls are held to. -/
structure CallOk (E : Env) (call : CallF) : Prop where
  fn : ∀ f args h v h' nd, call.fn f args h = some (v, h', nd) → FOk E.P f ∧ ∀ (ρ : Nat → Bk) (S : Nat → Prop) (w : World) (xs : List Value), RVs ρ h.l.length S w args xs → Heap ρ S w h.l →
  (∀ g ds, look g E.G = some ds → RV ρ 0 S w ds (.pointer (some ⟨g, 0, none⟩))) →
  Calls E.P f xs.toArray w (PostE h.l.length ρ S w h.l v h'.l) ∧ (nd = true → ∀ u, CallsDIn (Fw none) 0 E.P f xs.toArray u w fun e u' w' => u' = u ∧ PostE h.l.length ρ S w h.l v h'.l e w')
  yl : ∀ c args h v h', call.yl c args h = some (v, h') → ∀ (ρ : Nat → Bk) (S : Nat → Prop) (w : World) (xs : List Value), RVs ρ h.l.length S w args xs → Heap ρ S w h.l →
    (∀ g ds, look g E.G = some ds → RV ρ 0 S w ds (.pointer (some ⟨g, 0, none⟩))) →
    ∃ r : Loop, w.heap[(ρ c).b]? = some (.loop r) ∧ xs.length = r.params.size ∧ RoundIn (Fw none) 0 E.P (ρ c).b r.fn (roundTmps r xs) r.assign r.body w (PostE h.l.length ρ S w h.l v h'.l)

section
variable {E : Env} {nt : Nat} {w0 : World} {S0 W0 : Nat → Prop} {m : Nat} {ρ0 ρ : Nat → Bk} {S : Nat → Prop} {w w' : World} {s : St} {a : Act} {es es' : ES}

/-- Behind a call. -/
theorem Inv.called {v : V} {hp' : List (Option Ch)} {x : Value} (inv : Inv E nt w0 S0 W0 m ρ0 ρ S w s a) (h : PostE s.hp.length ρ S w s.hp v hp' (.returned x) w') :
    ∃ ρ' S', Inv E nt w0 S0 W0 m ρ0 ρ' S' w' { s with hp := hp' } a ∧ RV ρ' hp'.length S' w' v x ∧ (∀ b, b < w.heap.size → ¬ Wr ρ s.hp b → w'.heap[b]? = w.heap[b]?) ∧ ∀ c, c < s.hp.length → ρ' c = ρ c := by
  obtain ⟨y, ρ', S', e, hr, hh, hist, hpar, hle, hkeep, hnew⟩ := h
  injection e with e
  subst e
  have hS : Same S w w' := fun b hb => hist.blk b (inv.heap.old b hb) fun ⟨c, ch, h1, h2⟩ => inv.heap.out _ _ h1 (h2 ▸ hb)
  refine ⟨ρ', S', { inv with slots := ?_, heap := hh, hist := ?_, par := ?_, le := Nat.le_trans inv.le hle, keep := fun b hb => hkeep b (inv.keep b hb), new := ?_, glob := ?_, defers := inv.defers.mono hle hpar hkeep hS }, hr, hist.blk, hpar⟩
  · intro i u hu
    obtain ⟨y, hy, hr⟩ := inv.slots i u hu
    exact ⟨y, hy, hr.mono hle hpar hkeep hS⟩
  · have hi := inv.hist
    refine ⟨hist.os.trans hi.os, hist.tape.trans hi.tape, hist.output.trans hi.output, Nat.le_trans hi.size hist.size, fun b hb hne => ?_, fun b hb => ?_⟩
    · rw [← hi.blk b hb hne]
      refine hist.blk b (Nat.lt_of_lt_of_le hb hi.size) fun ⟨c, ch, h1, h2⟩ => ?_
      rcases inv.new c ch h1 with h' | h'
      · omega
      · exact hne (h2 ▸ h')
    · rcases hist.per b hb with h' | h'
      · exact hi.per b h'
      · exact .inr (Nat.le_trans hi.size h')
  · intro c hc
    rw [hpar c (Nat.lt_of_lt_of_le hc inv.le)]; exact inv.par c hc
  · intro c ch hc
    rcases hnew c ch hc with h' | ⟨c0, ch0, h1, h2⟩
    · exact .inl (Nat.le_trans inv.hist.size h')
    · rw [h2]; exact inv.new c0 ch0 h1
  · intro g ds hg
    exact (inv.glob g ds hg).mono (Nat.le_refl _) (fun _ h => absurd h (by omega)) hkeep hS

/-! ### what stirs the world -/
/-- The end of an operation. -/
def GivesE (E : Env) (nt : Nat) (w0 : World) (S0 W0 : Nat → Prop) (m : Nat) (ρ0 : Nat → Bk) (a : Act) (dst : Option Tmp) (v : V) (es' : ES) (a' : Act) (w' : World) : Prop :=
  ∃ x ρ' S' a1, a' = a1.put dst x ∧ a1.tmps = a.tmps ∧ Inv E nt w0 S0 W0 m ρ0 ρ' S' w' (es'.st nt) a1 ∧ RV ρ' (es'.st nt).hp.length S' w' v x

def lift (es : ES) : Option (V × HS) → Option (V × ES)
  | some (v, h) => some (v, { es with h := h })
  | none => none

def updE (E : Env) (t : TypeId) (h : HS) (x k v : V) : Option HS := match E.T t with
  | some ti => match ti.desc with
    | .map kt _ => match E.T kt with
      | some tk => match x, k with
        | .mp c, .d (.v key) => match getC h c with
          | some (.mp es) => bif isKeyB tk.desc key then (match findO key es 0 with
            | some (some (j, _)) => match setE j [(key, v)] es with
              | some es' => setC h c (some (.mp es'))
              | none => none
            | some none => setC h c (some (.mp (appE es [(key, v)])))
            | none => none) else none
          | _ => none
        | _, _ => none
      | none => none
    | _ => none
  | none => none

def eff_store (E : Env) (nt : Nat) (es : ES) (t : TypeId) (x y : Operand) : Option (V × ES) := match evE E nt es x with
    | some p => match evE E nt es y with
      | some v => match storeE E t es.h p v with
        | some h => some (.tup [], { es with h := h })
        | none => none
      | none => none
    | none => none
def eff_box (E : Env) (nt : Nat) (es : ES) (t : TypeId) (x : Operand) : Option (V × ES) := match evE E nt es x with
    | some v => lift es (boxE t es.h v)
    | none => none
def eff_makeSlice (E : Env) (nt : Nat) (es : ES) (t : TypeId) (l c : Operand) : Option (V × ES) := match evE E nt es l with
    | some u => match evE E nt es c with
      | some v => lift es (makeE E t es.h u v)
      | none => none
    | none => none
def build0 (E : Env) (t : TypeId) : Option TypeId := match E.T t with
  | some ti => match ti.desc with
    | .slice e => match E.T e with
      | some _ => some e
      | none => none
    | _ => none
  | none => none
def eff_buildSlice (E : Env) (nt : Nat) (es : ES) (t : TypeId) (len : Nat) (parts : Array (Nat × Operand)) : Option (V × ES) := match parts.toList with
  | [] => bif Nat.beq len 0 then (match build0 E t with
    | some e => lift es (newE es.h (.rows e 0 (some 0) 1 fun _ => []) fun _ => .z (some false))
    | none => none) else (match buildSliceO E t len [] with
      | some (e, sz, rs) => lift es (newE es.h (.rows e len (some len) sz fun i => nthD [] rs i) fun n => .ms n 0 len none sz)
      | none => none)
  | p :: r => match partsE E nt es (p :: r) with
    | some ps => match buildSliceO E t len ps with
      | some (e, sz, rs) => lift es (newE es.h (.rows e len (some len) sz fun i => nthD [] rs i) fun n => .ms n 0 len none sz)
      | none => none
    | none => none
def eff_mapUpdate (E : Env) (nt : Nat) (es : ES) (t : TypeId) (x k v : Operand) : Option (V × ES) := match evE E nt es x with
    | some x => match evE E nt es k with
      | some k => match evE E nt es v with
        | some v => match updE E t es.h x k v with
          | some h => some (.tup [], { es with h := h })
          | none => none
        | none => none
      | none => none
    | none => none
def eff_insert (E : Env) (nt : Nat) (es : ES) (t : TypeId) (x k v : Operand) : Option (V × ES) := match evE E nt es x with
    | some x => match evE E nt es k with
      | some k => match evE E nt es v with
        | some v => match updE E t es.h x k v with
          | some h => some (.tup [], { es with h := h })
          | none => none
        | none => none
      | none => none
    | none => none
def eff_call (E : Env) (nt : Nat) (es : ES) (call : CallF) (c : Call) : Option (V × ES) := match c.callee with
    | .value fo => match evE E nt es fo with
      | some (.fn f first caps) => match evsE E nt es c.args.toList with
        | some vs => match call.fn f (appE first (appE vs caps)) es.h with
          | some (v, h, _) => some (v, { es with h := h })
          | none => none
        | none => none
      | some (.yl k) => match evsE E nt es c.args.toList with
        | some vs => match call.yl k vs es.h with
          | some (v, h) => some (v, { es with h := h })
          | none => none
        | none => none
      | _ => none
    | .builtin .append => match evsE E nt es c.args.toList with
      | some [v, u] => lift es (appendE E c.argTypes.toList v u es.h)
      | _ => none
    | .builtin .copy => match evsE E nt es c.args.toList with
      | some [v, u] => lift es (copyE E c.argTypes.toList v u es.h)
      | _ => none
    | _ => none
def eff_defer (E : Env) (nt : Nat) (es : ES) (c : Call) : Option (V × ES) := match c.callee with
    | .value fo => match evE E nt es fo with
      | some (.fn f first caps) => match evsE E nt es c.args.toList with
        | some vs => some (.tup [], { es with df := .call f (appE first vs) caps :: es.df })
        | none => none
      | _ => none
    | _ => none

def effE (E : Env) (nt : Nat) (call : CallF) (es : ES) (o : Op) : Option (V × ES) := match o with
  | .store t x y => eff_store E nt es t x y
  | .alloc t => lift es (allocE E t es.h)
  | .box t x => eff_box E nt es t x
  | .makeSlice t l c => eff_makeSlice E nt es t l c
  | .buildSlice t len parts => eff_buildSlice E nt es t len parts
  | .makeMap _ none => lift es (newE es.h (.mp []) fun n => .mp n)
  | .mapUpdate t x k v => eff_mapUpdate E nt es t x k v
  | .insert t x k v => eff_insert E nt es t x k v
  | .call c => eff_call E nt es call c
  | .defer c => eff_defer E nt es c
  | _ => none

theorem evE.rv {x : Operand} {u : V} (inv : Inv E nt w0 S0 W0 m ρ0 ρ S w (es.st nt) a) (hx : evE E nt es x = some u) : RV ρ (es.st nt).hp.length S w u (a.eval x) := by
  obtain ⟨v, hv, e⟩ := evK.out (evE.of (k := fun v => v = u) hx rfl) inv
  subst e; exact hv
theorem evsE.rv {x : List Operand} {u : List V} (inv : Inv E nt w0 S0 W0 m ρ0 ρ S w (es.st nt) a) (hx : evsE E nt es x = some u) : RVs ρ (es.st nt).hp.length S w u (x.map a.eval) := by
  obtain ⟨v, hv, e⟩ := evsK.out (evsE.of (k := fun v => v = u) hx rfl) inv
  subst e; exact hv

theorem GivesE.of {o : Oper} {v : V} {Q : Exit → Act → World → Prop} (hE : E.Ok) (inv : Inv E nt w0 S0 W0 m ρ0 ρ S w (es.st nt) a) (h : effVC E o.op (es.st nt) fun u s => u = v ∧ s = es'.st nt) :
    opX E.P o a w (GivesE E nt w0 S0 W0 m ρ0 a o.dst v es') Q := by
  refine opX_mono (opX_of (effVC.out hE inv h)) ?_
  rintro a' w' ⟨x, u, s', ρ', S', rfl, h1, h2, rfl, rfl⟩
  exact ⟨x, ρ', S', a, rfl, rfl, h1, h2⟩

theorem keyEq_eq {k q : Value} (h : keyEqB k q = some true) : q = k := by
  unfold keyEqB at h
  split at h
  · rename_i a b
    have := some_eq h
    have : a = b := by simpa using this
    rw [this]
  · rename_i k1 a k2 b
    cases hq : ikEq k1 k2 with
    | false => rw [hq] at h; cases h
    | true =>
      rw [hq] at h
      have := some_eq h
      have e : a = b := by simpa using this
      rw [e, ikEq_eq hq]
  · rename_i a b
    have := some_eq h
    rw [beqL_eq, ← beq_list] at this
    have e : a = b := by
      have h2 : a.data.toList = b.data.toList := by
        rw [beq_list] at this
        simpa using this
      exact ByteArray.ext (Array.ext' h2)
    rw [e]
  · cases h

/-- A map's block turns. -/
theorem map_turn {c : Nat} {ents ents' : List (Value × V)} {ms ms' : Array MapEntry} {clk clk' : Nat} {h' : HS} (inv : Inv E nt w0 S0 W0 m ρ0 ρ S w (es.st nt) a) (hc : (es.st nt).hp[c]? = some (some (.mp ents))) (g1 : w.heap[(ρ c).b]? = some (.map ms clk))
    (hs : setC es.h c (some (.mp ents')) = some h') (k1 : ms'.toList.map (·.key) = ents'.map (·.1)) (k2 : RVs ρ (es.st nt).hp.length S w (ents'.map (·.2)) (ms'.toList.map (·.val))) :
    Inv E nt w0 S0 W0 m ρ0 ρ S { w with heap := w.heap.setIfInBounds (ρ c).b (.map ms' clk') } (({ es with h := h' } : ES).st nt) a := by
  obtain ⟨s1, s2⟩ := setC.of hs
  obtain ⟨q1, q2⟩ := MapKept.heap_set (o' := .map ms' clk') g1
  have hS : Same S w { w with heap := w.heap.setIfInBounds (ρ c).b (.map ms' clk') } := fun b hb => q2 b fun e => inv.heap.out _ _ hc (e ▸ hb)
  have := inv.turn (w' := { w with heap := w.heap.setIfInBounds (ρ c).b (.map ms' clk') }) (ch' := .mp ents') hc q2 (by simp) rfl rfl rfl ⟨ms', clk', q1, k1, k2.mono (Nat.le_refl _) (fun _ _ => rfl) (fun _ h => h) hS⟩
  have e : ({ es.st nt with hp := (es.st nt).hp.set c (some (.mp ents')) } : St) = ({ es with h := h' } : ES).st nt := by
    show (⟨_, _, _⟩ : St) = ⟨_, _, _⟩
    congr 1
    exact s2.symm
  rw [e] at this
  exact this

theorem updE.out {t : TypeId} {x k v : V} {y z u : Value} {h' : HS} (hE : E.Ok) (inv : Inv E nt w0 S0 W0 m ρ0 ρ S w (es.st nt) a) (h : updE E t es.h x k v = some h') (hx : RV ρ (es.st nt).hp.length S w x y) (hk : RV ρ (es.st nt).hp.length S w k z) (hv : RV ρ (es.st nt).hp.length S w v u) :
    ∃ w', (Instr.mapUpdate t y z u).run E.P w = .ok () w' ∧ Inv E nt w0 S0 W0 m ρ0 ρ S w' (({ es with h := h' } : ES).st nt) a := by
  unfold updE at h
  split at h
  · rename_i ti hti
    have hu := und_eq hE hti
    split at h
    · rename_i kt et hd
      rw [hd] at hu
      split at h
      · rename_i tk htk
        have huk := und_eq hE htk
        split at h
        · rename_i c key
          split at h
          · rename_i ents hc
            have hc' : (es.st nt).hp[c]? = some (some (.mp ents)) := by rw [← nth_eq]; exact getC.of hc
            cases hb : isKeyB tk.desc key with
            | false => rw [hb] at h; cases h
            | true =>
            rw [hb] at h
            simp only [cond_true] at h
            have hkey := RV.scalar hk
            subst hkey
            cases hx with | mp hcN =>
            obtain ⟨ms, clk, g1, g2, g3⟩ := inv.heap.at_ c _ hc'
            have hgo : (getObj (ρ c).b).run E.P w = .ok (.map ms clk) w := MapKept.run_getObj_map g1
            have hck : ∀ e w', (Instr.checkKey e 10000 kt key).run E.P w' = .ok () w' := fun e w' => MapKept.run_checkKey huk (isKeyB.out hb) e 9999
            have hml : ms.toList.length = ents.length := by have := congrArg List.length g2; simpa using this
            split at h
            · rename_i j u' hf
              obtain ⟨r', f1, f2⟩ := findO.out hb hf g2 g3
              split at h
              · rename_i ents' hst
                obtain ⟨s1, s2⟩ := setE_len hst
                simp only [List.length_singleton] at s1
                match r', f1, f2 with
                | none, _, f2 => exact f2.elim
                | some (j2, x2), f1, f2 =>
                  obtain ⟨rfl, f3, _, q, hq, hkq⟩ := f2
                  simp only [Nat.sub_zero] at hq
                  have hkk := keyEq_eq hkq
                  have hjl : j < ms.size := by rw [← Array.length_toList]; omega
                  have hmk : ms[j].key = key := by
                    have h1 : (ms.toList.map (·.key))[j]? = some ms[j].key := by simp [hjl]
                    rw [g2] at h1
                    have h2 : (ents.map (·.1))[j]? = some q.1 := by rw [List.getElem?_map, hq]; rfl
                    rw [h1] at h2
                    exact (some_eq h2).trans hkk
                  have hfk : (Instr.findKey kt key ms.toList).run E.P w = .ok (some (j, x2)) w := MapKept.run_findKey huk f1
                  have hkt : (Instr.keyThatStays key key).run E.P w = .ok key w := MapKept.run_keyThatStays (isKeyB.out hb)
                  have hso := MapKept.run_setObj_map (P := E.P) (w := w) (.map (ms.modify j fun e => { e with key := key, val := u }) clk) g1
                  refine ⟨_, ?_, map_turn (clk' := clk) (ms' := ms.modify j fun e => { e with key := key, val := u }) inv hc' g1 h ?_ ?_⟩
                  · simp only [Instr.mapUpdate, Sem.run_bind, run_underlying hu, hgo, hck, hfk, Result.andThen_ok]
                    have : ((ms[j]?).map (·.key)).getD key = key := by simp [hjl, hmk]
                    rw [this, hkt]
                    simp only [Result.andThen_ok]
                    exact hso
                  · rw [s2]
                    apply List.ext_getElem?
                    intro i
                    rw [setL_single _ _ _ (by omega)]
                    simp only [List.map_set, Array.toList_modify, List.getElem?_map]
                    rw [List.getElem?_set, List.getElem?_modify]
                    by_cases e : j = i
                    · subst e
                      have hjl' : j < ents.length := by omega
                      simp [hjl', hjl]
                    · rw [if_neg e]
                      simp only [if_neg e]
                      have := congrArg (·[i]?) g2
                      simpa using this
                  · rw [s2, setL_single _ _ _ (by omega)]
                    refine ⟨by simp [hml], fun i p q' hp hq' => ?_⟩
                    simp only [List.map_set, List.getElem?_set] at hp
                    simp only [Array.toList_modify, List.getElem?_map, List.getElem?_modify] at hq'
                    by_cases e : j = i
                    · subst e
                      have hjl' : j < (List.map (·.2) ents).length := by simp; omega
                      rw [if_pos rfl, if_pos hjl'] at hp
                      simp [hjl] at hq'
                      have := some_eq hp
                      subst this; subst hq'
                      exact hv
                    · rw [if_neg e] at hp
                      simp only [if_neg e] at hq'
                      exact g3.2 i p q' hp (by simpa using hq')
              · cases h
            · rename_i hf
              obtain ⟨r', f1, f2⟩ := findO.out hb hf g2 g3
              match r', f1, f2 with
              | some p, _, f2 => exact f2.elim
              | none, f1, _ =>
                have hfk : (Instr.findKey kt key ms.toList).run E.P w = .ok none w := MapKept.run_findKey huk f1
                have hso := MapKept.run_setObj_map (P := E.P) (w := w) (.map (ms.push { key := key, val := u, born := clk }) (clk + 1)) g1
                rw [appE_eq] at h
                refine ⟨_, ?_, map_turn (clk' := clk + 1) (ms' := ms.push { key := key, val := u, born := clk }) inv hc' g1 h ?_ ?_⟩
                · simp only [Instr.mapUpdate, Sem.run_bind, run_underlying hu, hgo, hck, hfk, Result.andThen_ok]
                  exact hso
                · simp [g2]
                · simp only [List.map_append, Array.toList_push]
                  exact g3.app (.cons hv .nil)
            · cases h
          · cases h
        · cases h
      · cases h
    · cases h
  · cases h

theorem built_slice {t e : TypeId} {len sz : Nat} {ps : List (Nat × V)} {xs : List (Nat × Value)} {rs : List (List V)} {v : V} {h' : HS} (hE : E.Ok) (inv : Inv E nt w0 S0 W0 m ρ0 ρ S w (es.st nt) a) (hb : buildSliceO E t len ps = some (e, sz, rs))
    (hx : RPs ρ (es.st nt).hp.length S w ps xs) (h : newE es.h (.rows e len (some len) sz fun i => nthD [] rs i) (fun n => .ms n 0 len none sz) = some (v, h')) :
    ∃ x w' ρ', (Instr.buildSlice t len xs.toArray).run E.P w = .ok x w' ∧ Inv E nt w0 S0 W0 m ρ0 ρ' S w' (({ es with h := h' } : ES).st nt) a ∧ RV ρ' (({ es with h := h' } : ES).st nt).hp.length S w' v x := by
  obtain ⟨cs, h1, h2, h3, h4, h5⟩ := buildSliceO.out hE hb hx
  have hn := newE.of (nt := nt) (k := fun u s => u = v ∧ s = ({ es with h := h' } : ES).st nt) h ⟨rfl, rfl⟩
  obtain ⟨e1, e2⟩ := newC.out hn
  have inv' := inv.fresh (o := .cells cs.toArray e) (cap := len) (ch := .rows e len (some len) sz fun i => nthD [] rs i) (by
    have hm := h5.mono (ρ' := more ρ (es.st nt).hp.length ⟨w.heap.size, len⟩) (N' := (es.st nt).hp.length + 1) (S' := S) (w' := w.alloc (.cells cs.toArray e)) (by omega) (fun c h => more_old h) (fun _ h => h) (fun b hb => heap_alloc_old _ _ (inv.heap.old b hb))
    refine ⟨cs, by rw [more_new]; exact heap_alloc_new _ _, ⟨by rw [more_new]; exact Nat.le_refl _, by rw [more_new]; exact h3, by rw [more_new]; exact hm.len, (fun k hk => by rw [more_new]; exact some_eq hk), hm.ok⟩, fun i hi => hm.el i hi⟩)
  rw [e2] at inv'
  refine ⟨_, _, _, h1 w, inv', ?_⟩
  rw [← e1, ← e2]
  have := ms_new (ρ := ρ) (S := S) (w := w.alloc (.cells cs.toArray e)) (N := (es.st nt).hp.length) (sz := sz) (b := w.heap.size) (Nat.le_refl len)
  have hl : (es.st nt).hp.length = es.h.n := es.h.len
  simpa [St.push, hl] using this

theorem built_none {t e : TypeId} {v : V} {h' : HS} (hE : E.Ok) (inv : Inv E nt w0 S0 W0 m ρ0 ρ S w (es.st nt) a) (hb : build0 E t = some e)
    (h : newE es.h (.rows e 0 (some 0) 1 fun _ => []) (fun _ => .z (some false)) = some (v, h')) :
    ∃ x w' ρ', (Instr.buildSlice t 0 #[]).run E.P w = .ok x w' ∧ Inv E nt w0 S0 W0 m ρ0 ρ' S w' (({ es with h := h' } : ES).st nt) a ∧ RV ρ' (({ es with h := h' } : ES).st nt).hp.length S w' v x := by
  unfold build0 at hb
  split at hb
  · rename_i ti hti
    have hu := und_eq hE hti
    split at hb
    · rename_i e' hd
      rw [hd] at hu
      split at hb
      · rename_i te hte
        have := some_eq hb; subst this
        have hsz := (hE.T _ _ hte).size w
        have hn := newE.of (nt := nt) (k := fun u s => u = v ∧ s = ({ es with h := h' } : ES).st nt) h ⟨rfl, rfl⟩
        obtain ⟨e1, e2⟩ := newC.out hn
        have inv' := inv.fresh (o := .cells #[] e') (cap := 0) (ch := .rows e' 0 (some 0) 1 fun _ => []) (by
          refine ⟨[], by rw [more_new]; exact heap_alloc_new _ _, ⟨Nat.zero_le _, by rw [more_new]; unfold maxLen; simp, by rw [more_new]; rfl, fun k hk => (by rw [more_new]; exact some_eq hk), fun x hx => by simp at hx⟩, fun i hi => absurd hi (by omega)⟩)
        rw [e2] at inv'
        refine ⟨.slice (some ⟨w.heap.size, 0, none⟩) 0 0, _, _, ?_, inv', ?_⟩
        · simp only [Instr.buildSlice, Sem.run_bind, run_underlying hu, hsz, Result.andThen_ok]
          simp [Instr.fill, newRow, show Array.range 0 = #[] from rfl]
        · rw [← e1, ← e2]; exact .z1 (by simp)
      · cases hb
    · cases hb
  · cases hb

theorem effE.out {call : CallF} {o : Oper} {v : V} {Q : Exit → Act → World → Prop} (hE : E.Ok) (hC : CallOk E call) (inv : Inv E nt w0 S0 W0 m ρ0 ρ S w (es.st nt) a) (h : effE E nt call es o.op = some (v, es')) :
    opX E.P o a w (GivesE E nt w0 S0 W0 m ρ0 a o.dst v es') Q := by
  have lft : ∀ {r : Option (V × HS)}, lift es r = some (v, es') → ∃ h', r = some (v, h') ∧ es' = { es with h := h' } := fun {r} hr => by
    cases r with
    | none => cases hr
    | some p =>
      obtain ⟨u, h'⟩ := p
      have := some_eq hr
      injection this with e1 e2
      subst e1
      exact ⟨h', rfl, e2.symm⟩
  unfold effE at h
  split at h
  · rename_i t x y ho
    unfold eff_store at h
    split at h
    · rename_i p hp
      split at h
      · rename_i u hu
        split at h
        · rename_i h' hs
          have := some_eq h
          injection this with e1 e2
          subst e1; subst e2
          refine GivesE.of hE inv ?_
          rw [ho]
          exact evE.of hp (evE.of hu (storeE.of hs ⟨rfl, rfl⟩))
        · cases h
      · cases h
    · cases h
  · rename_i t ho
    obtain ⟨h', e, rfl⟩ := lft h
    refine GivesE.of hE inv ?_
    rw [ho]
    simp only [effVC]
    exact allocE.of (k := fun u s => u = v ∧ s = ({ es with h := h' } : ES).st nt) e ⟨rfl, rfl⟩
  · rename_i t x ho
    unfold eff_box at h
    split at h
    · rename_i u hu
      obtain ⟨h', e, rfl⟩ := lft h
      refine GivesE.of hE inv ?_
      rw [ho]
      exact evE.of hu (boxE.of e ⟨rfl, rfl⟩)
    · cases h
  · rename_i t l c ho
    unfold eff_makeSlice at h
    split at h
    · rename_i u hu
      split at h
      · rename_i q hq
        obtain ⟨h', e, rfl⟩ := lft h
        refine GivesE.of hE inv ?_
        rw [ho]
        exact evE.of hu (evE.of hq (makeE.of e ⟨rfl, rfl⟩))
      · cases h
    · cases h
  · rename_i t len parts ho
    unfold eff_buildSlice at h
    have old : ∀ (ps : List (Nat × V)) (hps : partsE E nt es parts.toList = some ps), (match buildSliceO E t len ps with
      | some (e, sz, rs) => lift es (newE es.h (.rows e len (some len) sz fun i => nthD [] rs i) fun n => .ms n 0 len none sz)
      | none => none) = some (v, es') → opX E.P o a w (GivesE E nt w0 S0 W0 m ρ0 a o.dst v es') Q := by
      intro ps hps h
      split at h
      · rename_i e sz rs hb
        obtain ⟨h', e', rfl⟩ := lft h
        obtain ⟨x, w', ρ', h1, h2, h3⟩ := built_slice hE inv hb (partsE.out hps inv) e'
        have ep : (parts.map fun (i, x) => (i, a.eval x)) = (List.map (fun p => (p.1, a.eval p.2)) parts.toList).toArray := by apply Array.ext'; simp
        refine opX_of (wp_val (x := x) (w' := w') ?_ ⟨x, ρ', S, a, rfl, rfl, h2, h3⟩)
        simp only [execOp, ho, ep, Sem.run_bind, h1, Result.andThen_ok]
        rfl
      · cases h
    split at h
    · rename_i hpl
      cases hb : Nat.beq len 0 with
      | true =>
        rw [hb] at h
        simp only [cond_true] at h
        have hl := Nat.eq_of_beq_eq_true hb
        subst hl
        have hp0 : parts = #[] := Array.ext' hpl
        split at h
        · rename_i e he
          obtain ⟨h', e', rfl⟩ := lft h
          obtain ⟨x, w', ρ', h1, h2, h3⟩ := built_none hE inv he e'
          refine opX_of (wp_val (x := x) (w' := w') ?_ ⟨x, ρ', S, a, rfl, rfl, h2, h3⟩)
          simp [execOp, ho, hp0, h1]
        · cases h
      | false =>
        rw [hb] at h
        simp only [cond_false] at h
        exact old [] (by rw [hpl]; rfl) h
    · rename_i p r hpl
      split at h
      · rename_i ps hps
        exact old ps (by rw [hpl]; exact hps) h
      · cases h
  · rename_i t ho
    obtain ⟨h', e, rfl⟩ := lft h
    have hn := newE.of (nt := nt) (k := fun u s => u = v ∧ s = ({ es with h := h' } : ES).st nt) e ⟨rfl, rfl⟩
    obtain ⟨e1, e2⟩ := newC.out hn
    have inv' := inv.fresh (o := .map #[] 0) (cap := 0) (ch := .mp []) ⟨#[], 0, by rw [more_new]; exact heap_alloc_new _ _, rfl, .nil⟩
    rw [e2] at inv'
    refine opX_of (wp_val (x := .map (some w.heap.size)) (w' := w.alloc (.map #[] 0)) ?_ ⟨_, _, S, a, rfl, rfl, inv', ?_⟩)
    · have hm : (Instr.makeMap t none).run E.P w = .ok (.map (some w.heap.size)) (w.alloc (.map #[] 0)) := rfl
      simp [execOp, ho, hm]
    · rw [← e1, ← e2]
      have := RV.mp (ρ := more ρ (es.st nt).hp.length ⟨w.heap.size, 0⟩) (N := (es.st nt).hp.length + 1) (S := S) (w := w.alloc (.map #[] 0)) (c := (es.st nt).hp.length) (by omega)
      rw [more_new] at this
      have hl : (es.st nt).hp.length = es.h.n := es.h.len
      simpa [St.push, hl] using this
  · rename_i t x k y ho
    unfold eff_mapUpdate at h
    split at h
    · rename_i p hp
      split at h
      · rename_i q hq
        split at h
        · rename_i u hu
          split at h
          · rename_i h' hs
            have := some_eq h
            injection this with e1 e2
            subst e1; subst e2
            obtain ⟨w', r1, r2⟩ := updE.out hE inv hs (evE.rv inv hp) (evE.rv inv hq) (evE.rv inv hu)
            exact opX_of (wp_skp (w' := w') (by simp [execOp, ho, r1]) ⟨undef, ρ, S, a, rfl, rfl, r2, .tup (xs := []) rfl (fun k a b h => by simp at h)⟩)
          · cases h
        · cases h
      · cases h
    · cases h
  · rename_i t x k y ho
    unfold eff_insert at h
    split at h
    · rename_i p hp
      split at h
      · rename_i q hq
        split at h
        · rename_i u hu
          split at h
          · rename_i h' hs
            have := some_eq h
            injection this with e1 e2
            subst e1; subst e2
            obtain ⟨w', r1, r2⟩ := updE.out hE inv hs (evE.rv inv hp) (evE.rv inv hq) (evE.rv inv hu)
            exact opX_of (wp_skp (w' := w') (by simp [execOp, ho, r1]) ⟨undef, ρ, S, a, rfl, rfl, r2, .tup (xs := []) rfl (fun k a b h => by simp at h)⟩)
          · cases h
        · cases h
      · cases h
    · cases h
  · rename_i c ho
    unfold eff_call at h
    split at h
    · rename_i fo hc
      split at h
      · rename_i f first caps hf
        split at h
        · rename_i vs hvs
          split at h
          · rename_i u h' nd hcl
            have := some_eq h
            injection this with e1 e2
            subst e1; subst e2
            rw [appE_eq, appE_eq, ← List.append_assoc] at hcl
            obtain ⟨c1, c2⟩ := hC.fn _ _ _ _ _ _ hcl
            refine GivesE.of hE inv ?_
            rw [ho]
            unfold effVC
            simp only [hc]
            refine evE.of hf (evsE.of hvs ?_)
            unfold callK
            refine appK.mk' (appK.mk' ⟨List.range (es.st nt).hp.length, c1, fun nt' w0 S0 m W0 ρ0 ρ S w a xs inv hx => ?_⟩)
            have hcall := (c2 ρ S w xs hx inv.heap (fun g ds hg => (inv.glob g ds hg).mono (Nat.le_refl _) (fun _ h => absurd h (by omega)) (fun _ h => h) (fun _ _ => rfl))).1
            refine hcall.mono fun e w' hp => ?_
            obtain ⟨x, _, _, he, _⟩ := id hp
            subst he
            obtain ⟨ρ', S', i1, i2, i3, i4⟩ := inv.called hp
            refine ⟨x, u, _, ρ', S', rfl, i1, i2, ⟨rfl, rfl⟩, fun b hb hne => i3 b hb fun ⟨c, ch, k1, k2⟩ => ?_, i4⟩
            exact hne c (List.mem_range.2 (List.getElem?_eq_some_iff.1 k1).1) k2
          · cases h
        · cases h
      · rename_i k hf
        split at h
        · rename_i vs hvs
          split at h
          · rename_i u h' hcl
            have := some_eq h
            injection this with e1 e2
            subst e1; subst e2
            have hfv := evE.rv inv hf
            have hav := evsE.rv inv hvs
            obtain ⟨r, r1, r2, r3⟩ := hC.yl _ _ _ _ _ hcl ρ S w _ hav inv.heap (fun g ds hg => (inv.glob g ds hg).mono (Nat.le_refl _) (fun _ h => absurd h (by omega)) (fun _ h => h) (fun _ _ => rfl))
            generalize hx : a.eval fo = y at hfv
            cases hfv with | yl hk =>
            have hrun : (execOp a.eval o).run E.P w = .ok (.round (ρ k).b r.fn (roundTmps r (c.args.toList.map a.eval)) r.assign r.body) w := by
              have hsz : (c.args.map a.eval).size = r.params.size := by rw [← r2]; simp
              have hy := run_yield (P := E.P) r1 hsz
              have ha : (c.args.toList.map a.eval).toArray = c.args.map a.eval := by apply Array.ext'; simp
              unfold roundTmps
              rw [ha]
              simp only [execOp, ho, resolve, hc, hx, Deferred.ofValue, Sem.run_bind, Sem.run_pure, Result.andThen_ok, invoke]
              simpa using hy
            unfold opX
            rw [hrun]
            refine ⟨Fw.one _ _, RoundIn.mono r3 fun e w' hp => ?_⟩
            obtain ⟨x, _, _, he, _⟩ := id hp
            subst he
            obtain ⟨ρ', S', i1, i2, _, _⟩ := inv.called hp
            exact ⟨x, ρ', S', a, rfl, rfl, i1, i2⟩
          · cases h
        · cases h
      · cases h
    · rename_i hc
      split at h
      · rename_i p q hvs
        obtain ⟨h', e, rfl⟩ := lft h
        refine GivesE.of hE inv ?_
        rw [ho]
        unfold effVC
        simp only [hc]
        exact evsE.of hvs (appendE.of e ⟨rfl, rfl⟩)
      · cases h
    · rename_i hc
      split at h
      · rename_i p q hvs
        obtain ⟨h', e, rfl⟩ := lft h
        refine GivesE.of hE inv ?_
        rw [ho]
        unfold effVC
        simp only [hc]
        exact evsE.of hvs (copyE.of e ⟨rfl, rfl⟩)
      · cases h
    · cases h
  · rename_i c ho
    unfold eff_defer at h
    split at h
    · rename_i fo hc
      split at h
      · rename_i f first caps hf
        split at h
        · rename_i vs hvs
          have := some_eq h
          injection this with e1 e2
          subst e1; subst e2
          have hfv := evE.rv inv hf
          have hav := evsE.rv inv hvs
          generalize hx : a.eval fo = y at hfv
          cases hfv with | fn h1 h2 h3 h4 =>
          rename_i xs ys
          refine opX_of ?_
          unfold Oper.wp
          have hrun : (execOp a.eval o).run E.P w = .ok (.defer { target := .fn (.func f) ys.toArray, args := (xs ++ c.args.toList.map a.eval).toArray }) w := by
            simp [execOp, ho, resolve, hc, hx, Deferred.ofValue]
          rw [hrun, Oper.upon_defer]
          refine ⟨undef, ρ, S, { a with defers := _ :: a.defers }, rfl, rfl, { inv with slots := inv.slots, defers := ?_, nt := inv.nt }, .tup (xs := []) rfl (fun k a b h => by simp at h)⟩
          exact ⟨_, _, _, rfl, by rw [appE_eq]; exact RVs.app ⟨h1, h2⟩ hav, ⟨h3, h4⟩, inv.defers⟩
        · cases h
      · cases h
    · cases h
  · cases h

end
end
end Go.E
