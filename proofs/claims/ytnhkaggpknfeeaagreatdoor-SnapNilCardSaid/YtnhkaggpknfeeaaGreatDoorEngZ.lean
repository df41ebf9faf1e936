/-
  THE ENGINE, PART Z: the evaluator: what stirs the world; one operation; regions in the order of the text.
-/
import Derived.Test.YtnhkaggpknfeeaaGreatDoorEngR
import Derived.Test.YtnhkaggpknfeeaaGreatDoorEngD
import Derived.Defers
namespace Go.E
open Go
noncomputable section

section
variable {E : Env} {nt : Nat} {w0 : World} {S0 W0 : Nat → Prop} {m : Nat} {ρ0 ρ : Nat → Bk} {S : Nat → Prop} {w w' : World} {s : St} {a : Act} {es es' : ES}

/-! ### stores -/
def putAtE (h : HS) (p : V) (vs : List V) : Option HS := match p with
  | .loc c off => match getC h c with
    | some (.cells ty old) => match setE off vs old with
      | some r => setC h c (some (.cells ty r))
      | none => none
    | _ => none
  | .re c i kk sz => match getC h c with
    | some (.rows ty n cap sz' f) => bif Nat.beq sz' sz && Nat.blt i n then (match setE kk vs (f i) with
      | some g => setC h c (some (.rows ty n cap sz' fun j => bif Nat.beq j i then g else f j))
      | none => none) else none
    | _ => none
  | _ => none
theorem putAtE.of {p : V} {vs : List V} {h' : HS} {k : St → Prop} (e : putAtE es.h p vs = some h') (hk : k (({ es with h := h' } : ES).st nt)) : putAt (es.st nt) p vs k := by
  unfold putAtE at e
  unfold putAt
  have fin : ∀ {c : Nat} {ch : Ch}, setC es.h c (some ch) = some h' → setK c [some ch] (es.st nt).hp fun hp' => k { es.st nt with hp := hp' } := fun {c ch} hs => by
    obtain ⟨h1, h2⟩ := setC.of hs
    refine setK.mk h1 ?_
    have : ({ es.st nt with hp := (es.st nt).hp.set c (some ch) } : St) = ({ es with h := h' } : ES).st nt := by
      show (⟨_, _, _⟩ : St) = ⟨_, _, _⟩
      congr 1
      exact h2.symm
    rw [this]; exact hk
  split at e
  · split at e
    · rename_i hc
      have := getC.of hc
      simp only [ES.st, this]
      split at e
      · rename_i r hr; exact setE.of hr (fin e)
      · cases e
    · cases e
  · split at e
    · rename_i c i kk sz _ ty n cap sz' f hc
      have := getC.of hc
      simp only [ES.st, this]
      cases hb : (Nat.beq sz' sz && Nat.blt i n) with
      | false => rw [hb] at e; cases e
      | true =>
        rw [hb] at e
        obtain ⟨h1, h2⟩ := Bool.and_eq_true_iff.1 hb
        simp only [cond_true] at e
        rw [h1]
        refine ⟨blt_o h2, ?_⟩
        split at e
        · rename_i g hg; exact setE.of hg (fin e)
        · cases e
    · cases e
  · cases e

theorem noTupB.of {v : V} {q : Prop} (h : noTupB v = true) (hq : q) : noTup v q := by
  cases v <;> first | exact hq | cases h

def storeE (E : Env) (t : TypeId) (h : HS) (p v : V) : Option HS := match E.T t with
  | some ti => bif noTupB v && (Nat.beq (cellsOf v).length ti.size && flatV (cellsOf v)) then putAtE h p (cellsOf v) else none
  | none => none
theorem storeE.of {t : TypeId} {p v : V} {h' : HS} {k : St → Prop} (e : storeE E t es.h p v = some h') (hk : k (({ es with h := h' } : ES).st nt)) : noTup v (flatK v (storeVC E t (es.st nt) p v k)) := by
  unfold storeE at e
  split at e
  · rename_i ti hti
    cases hb : (noTupB v && (Nat.beq (cellsOf v).length ti.size && flatV (cellsOf v))) with
    | false => rw [hb] at e; cases e
    | true =>
      rw [hb] at e
      obtain ⟨h1, h23⟩ := Bool.and_eq_true_iff.1 hb
      obtain ⟨h2, h3⟩ := Bool.and_eq_true_iff.1 h23
      refine noTupB.of h1 ?_
      unfold flatK storeVC
      rw [h3, hti]
      refine noTupB.of h1 ?_
      rw [h2]
      exact putAtE.of e hk
  · cases e

/-! ### what is new -/
def newE (h : HS) (ch : Ch) (v : Nat → V) : Option (V × HS) := match pushC h ch with
  | some h' => some (v h.n, h')
  | none => none
theorem newE.of {ch : Ch} {v : Nat → V} {u : V} {h' : HS} {k : V → St → Prop} (e : newE es.h ch v = some (u, h')) (hk : k u (({ es with h := h' } : ES).st nt)) : newC (es.st nt) ch fun n s' => k (v n) s' := by
  unfold newE at e
  split at e
  · rename_i h1 hp
    have := some_eq e
    injection this with e1 e2
    subst e1; subst e2
    exact newC.of hp hk
  · cases e

def allocE (E : Env) (t : TypeId) (h : HS) : Option (V × HS) := match E.T t with
  | some ti => newE h (.cells t (mapE ofVal ti.zero)) fun n => .loc n 0
  | none => none
theorem allocE.of {t : TypeId} {u : V} {h' : HS} {k : V → St → Prop} (e : allocE E t es.h = some (u, h')) (hk : k u (({ es with h := h' } : ES).st nt)) : allocVC E t (es.st nt) k := by
  unfold allocE at e
  unfold allocVC
  split at e
  · rename_i ti hti
    rw [hti]
    exact mapE.of (newE.of e hk)
  · cases e
def boxE (t : TypeId) (h : HS) (v : V) : Option (V × HS) := bif noTupB v && flatV (cellsOf v) then newE h (.cells t (cellsOf v)) (fun n => .loc n 0) else none
theorem boxE.of {t : TypeId} {v u : V} {h' : HS} {k : V → St → Prop} (e : boxE t es.h v = some (u, h')) (hk : k u (({ es with h := h' } : ES).st nt)) : noTup v (flatK v (boxVC t (es.st nt) v k)) := by
  unfold boxE at e
  cases hb : (noTupB v && flatV (cellsOf v)) with
  | false => rw [hb] at e; cases e
  | true =>
    rw [hb] at e
    obtain ⟨h1, h2⟩ := Bool.and_eq_true_iff.1 hb
    refine noTupB.of h1 ?_
    unfold flatK boxVC
    rw [h2]
    refine noTupB.of h1 ?_
    exact newE.of e hk
def makeE (E : Env) (t : TypeId) (h : HS) (l c : V) : Option (V × HS) := match E.T t with
  | some ti => match ti.desc with
    | .slice e => match E.T e with
      | some te => match intE l with
        | some L => match intE c with
          | some C => bif (decide (0 ≤ L) && (decide (L ≤ C) && (decide ((te.bytes : Int) * C ≤ 281474976710656) && decide (C ≤ 9223372036854775807)))) && !Nat.beq te.size 0 then
              fN L.toNat fun l => fN C.toNat fun c => (fun z => newE h (.rows e c (some c) te.size fun _ => z) fun n => .ms n 0 l none te.size) (mapE ofVal te.zero) else none
          | none => none
        | none => none
      | none => none
    | _ => none
  | none => none
theorem makeE.of {t : TypeId} {l c u : V} {h' : HS} {k : V → St → Prop} (e : makeE E t es.h l c = some (u, h')) (hk : k u (({ es with h := h' } : ES).st nt)) : makeVC E t (es.st nt) l c k := by
  unfold makeE at e
  unfold makeVC
  split at e
  · rename_i ti hti
    rw [hti]
    split at e
    · rename_i el hd
      simp only [hd]
      split at e
      · rename_i te hte
        simp only [hte]
        split at e
        · rename_i L hL
          split at e
          · rename_i C hC
            refine intE.of (k := fun L => _) hL (intE.of (k := fun C => _) hC ?_)
            cases hb : ((decide (0 ≤ L) && (decide (L ≤ C) && (decide ((te.bytes : Int) * C ≤ 281474976710656) && decide (C ≤ 9223372036854775807)))) && !Nat.beq te.size 0) with
            | false => rw [hb] at e; cases e
            | true =>
              rw [hb] at e
              obtain ⟨h1, h2⟩ := Bool.and_eq_true_iff.1 hb
              simp only [cond_true, fN_eq] at e
              refine ⟨by simpa using h1, ?_⟩
              have h2' : Nat.beq te.size 0 = false := by simpa using h2
              rw [h2']
              exact mapE.of (newE.of e hk)
          · cases e
        · cases e
      · cases e
    · cases e
  · cases e

/-! ### append -/
def srcE (h : HS) (v : V) (sz : Nat) : Option (Nat × (Nat → List V)) := match v with
  | .d (.sl _ n sz' f) => bif Nat.beq sz' sz then some (n, fun i => (f i).map V.d) else (bif Nat.beq n 0 then some (0, fun _ => []) else none)
  | .z _ => some (0, fun _ => [])
  | .ms c off n _ sz' => match getC h c with
    | some (.rows _ nn _ sz'' f) => bif (Nat.beq sz' sz && Nat.beq sz'' sz) && Nat.ble (off + n) nn then some (n, fun i => f (off + i)) else none
    | _ => none
  | _ => none
theorem srcE.of {v : V} {sz n : Nat} {f : Nat → List V} {k : Nat → (Nat → List V) → Prop} (e : srcE es.h v sz = some (n, f)) (hk : k n f) : srcK (es.st nt) v sz k := by
  unfold srcE at e
  unfold srcK
  split at e
  · rename_i b n' sz' f'
    cases hz : Nat.beq sz' sz with
    | true =>
      rw [hz] at e
      have := some_eq e
      injection this with e1 e2
      subst e1; subst e2
      simp only [hz]
      exact hk
    | false =>
      rw [hz] at e
      simp only [hz]
      simp only [cond_false] at e ⊢
      cases h0 : Nat.beq n' 0 with
      | false => rw [h0] at e; cases e
      | true =>
        rw [h0] at e
        have := some_eq e
        injection this with e1 e2
        subst e1; subst e2
        exact ⟨Nat.eq_of_beq_eq_true h0, hk⟩
  · have := some_eq e
    injection this with e1 e2
    subst e1; subst e2
    exact hk
  · split at e
    · rename_i c off n' q sz' _ ty nn q' sz'' f' hc
      have := getC.of hc
      simp only [ES.st, this]
      cases hb : ((Nat.beq sz' sz && Nat.beq sz'' sz) && Nat.ble (off + n') nn) with
      | false => rw [hb] at e; cases e
      | true =>
        rw [hb] at e
        obtain ⟨h1, h2⟩ := Bool.and_eq_true_iff.1 hb
        have := some_eq e
        injection this with e1 e2
        subst e1; subst e2
        rw [h1]
        exact ⟨Nat.le_of_ble_eq_true h2, hk⟩
    · cases e
  · cases e

def newAppE (e : TypeId) (te : TI) (n : Nat) (g : Nat → List V) (h : HS) : Option (V × HS) :=
  bif Nat.ble n 9223372036854775807 && Nat.ble (n * te.bytes) 140737488355328 then fN n fun n => newE h (.rows e n none te.size g) fun N => .ms N 0 n none te.size else none
theorem newAppE.of {e : TypeId} {te : TI} {n : Nat} {g : Nat → List V} {u : V} {h' : HS} {k : V → St → Prop} (h : newAppE e te n g es.h = some (u, h')) (hk : k u (({ es with h := h' } : ES).st nt)) : newApp e te n g (es.st nt) k := by
  unfold newAppE at h
  unfold newApp
  cases hb : (Nat.ble n 9223372036854775807 && Nat.ble (n * te.bytes) 140737488355328) with
  | false => rw [hb] at h; cases h
  | true =>
    rw [hb] at h
    obtain ⟨h1, h2⟩ := Bool.and_eq_true_iff.1 hb
    simp only [cond_true, fN_eq] at h
    exact ⟨⟨Nat.le_of_ble_eq_true h1, Nat.le_of_ble_eq_true h2⟩, newE.of h hk⟩

def srcTE (E : Env) (t t' : TypeId) (h : HS) (v : V) (sz : Nat) : Option (Nat × (Nat → List V)) := bif Nat.beq t t' then srcE h v sz else (match E.T t' with
  | some ti => match ti.desc with
    | .string => match v with
      | .d (.v (.string b)) => bif Nat.beq sz 1 then some (b.size, fun i => [.d (.v (.int .u8 ((b.data.toList.getD i 0).toNat : Int)))]) else none
      | _ => none
    | _ => none
  | none => none)
theorem srcTE.of {t t' : TypeId} {v : V} {sz n : Nat} {f : Nat → List V} {k : Nat → (Nat → List V) → Prop} (e : srcTE E t t' es.h v sz = some (n, f)) (hk : k n f) : srcTK E t t' (es.st nt) v sz k := by
  unfold srcTE at e
  unfold srcTK
  cases htt : Nat.beq t t' with
  | true => rw [htt] at e; exact srcE.of e hk
  | false =>
    rw [htt] at e
    simp only [cond_false] at e ⊢
    split at e
    · rename_i ti hti
      simp only [hti]
      split at e
      · rename_i hd
        simp only [hd]
        split at e
        · rename_i b
          cases hz : Nat.beq sz 1 with
          | false => rw [hz] at e; cases e
          | true =>
            rw [hz] at e
            have := some_eq e
            injection this with e1 e2
            subst e1; subst e2
            exact hk
        · cases e
      · cases e
    · cases e

def appendE (E : Env) (ts : List TypeId) (dst src : V) (h : HS) : Option (V × HS) := match ts with
  | [t, t'] => match E.T t with
    | some ti => match ti.desc with
      | .slice e => match E.T e with
        | some te => bif Nat.beq te.size 0 then none else (match srcTE E t t' h src te.size with
          | some (n, g) => match dst with
            | .d (.sl (some true) 0 _ _) => bif Nat.beq n 0 then some (dst, h) else newAppE e te n g h
            | .z _ => bif Nat.beq n 0 then some (dst, h) else newAppE e te n g h
            | .ms c 0 n0 none sz => match getC h c with
              | some (.rows ty nn _ sz' f) => bif (Nat.beq sz te.size && (Nat.beq sz' te.size && Nat.beq ty e)) && (Nat.ble n0 nn && (Nat.ble (n0 + n) 9223372036854775807 && Nat.ble ((n0 + n) * te.bytes) 140737488355328)) then
                  (match setC h c none with
                  | some h1 => fN (n0 + n) fun n1 => newE h1 (.rows e n1 none te.size fun i => bif Nat.blt i n0 then f i else g (i - n0)) fun N => .ms N 0 n1 none te.size
                  | none => none) else none
              | _ => none
            | _ => none
          | none => none)
        | none => none
      | _ => none
    | none => none
  | _ => none

theorem nsel.of {n : Nat} {p q : Prop} (h : if n = 0 then p else q) : nsel n p q := by
  cases n with
  | zero => simpa [nsel] using h
  | succ n => simpa [nsel] using h

theorem appendE.of {ts : List TypeId} {dst src u : V} {h' : HS} {k : V → St → Prop} (h : appendE E ts dst src es.h = some (u, h')) (hk : k u (({ es with h := h' } : ES).st nt)) : appendVC E ts dst src (es.st nt) k := by
  unfold appendE at h
  unfold appendVC
  split at h
  · rename_i t t'
    split at h
    · rename_i ti hti
      simp only [hti]
      split at h
      · rename_i e hd
        simp only [hd]
        split at h
        · rename_i te hte
          simp only [hte]
          cases hz : Nat.beq te.size 0 with
          | true => rw [hz] at h; cases h
          | false =>
          rw [hz] at h
          simp only [cond_false] at h
          simp only [hz, cond_false]
          split at h
          · rename_i n g hsrc
            refine srcTE.of hsrc ?_
            have onto0 : (bif Nat.beq n 0 then some (dst, es.h) else newAppE e te n g es.h) = some (u, h') → nsel n (k dst (es.st nt)) (newApp e te n g (es.st nt) k) := by
              intro h
              refine nsel.of ?_
              by_cases h0 : n = 0
              · rw [if_pos h0]
                rw [beq_t h0] at h
                have := some_eq h
                injection this with e1 e2
                subst e1; subst e2
                exact hk
              · rw [if_neg h0]
                rw [beq_f h0] at h
                exact newAppE.of h hk
            split at h
            · exact onto0 h
            · exact onto0 h
            · rename_i c n0 sz
              split at h
              · rename_i ty nn q sz' f hc
                have := getC.of hc
                simp only [ES.st, this]
                cases hb : ((Nat.beq sz te.size && (Nat.beq sz' te.size && Nat.beq ty e)) && (Nat.ble n0 nn && (Nat.ble (n0 + n) 9223372036854775807 && Nat.ble ((n0 + n) * te.bytes) 140737488355328))) with
                | false => rw [hb] at h; cases h
                | true =>
                  rw [hb] at h
                  obtain ⟨h1, h2⟩ := Bool.and_eq_true_iff.1 hb
                  obtain ⟨h2, h34⟩ := Bool.and_eq_true_iff.1 h2
                  obtain ⟨h3, h4⟩ := Bool.and_eq_true_iff.1 h34
                  simp only [cond_true] at h
                  rw [h1]
                  refine ⟨⟨Nat.le_of_ble_eq_true h2, Nat.le_of_ble_eq_true h3, Nat.le_of_ble_eq_true h4⟩, ?_⟩
                  split at h
                  · rename_i h1' hs1
                    rw [fN_eq] at h
                    obtain ⟨g1, g2⟩ := setC.of hs1
                    refine setK.mk g1 ?_
                    have e2 : ({ es.st nt with hp := (es.st nt).hp.set c none } : St) = ({ es with h := h1' } : ES).st nt := by
                      show (⟨_, _, _⟩ : St) = ⟨_, _, _⟩
                      congr 1
                      exact g2.symm
                    show newC { es.st nt with hp := (es.st nt).hp.set c none } _ _
                    rw [e2]
                    exact newE.of (es := { es with h := h1' }) h hk
                  · cases h
              · cases h
            · cases h
          · cases h
        · cases h
      · cases h
    · cases h
  · cases h


def copyE (E : Env) (ts : List TypeId) (dst src : V) (h : HS) : Option (V × HS) := match ts with
  | [t, t'] => match E.T t with
    | some ti => match ti.desc with
      | .slice e => match E.T e with
        | some te => bif Nat.beq te.size 0 then none else (match srcTE E t t' h src te.size with
          | some (n, g) => match dst with
            | .z _ => some (.int .i64 (0 : Nat), h)
            | .d (.sl _ 0 _ _) => some (.int .i64 (0 : Nat), h)
            | .ms c off nd _ sz => match getC h c with
              | some (.rows ty nn q sz' f) => bif (Nat.beq sz te.size && Nat.beq sz' te.size) && Nat.ble (off + nd) nn then fN (minB nd n) fun k => (match setC h c (some (.rows ty nn q sz' (overF off k g f))) with
                  | some h' => some (.int .i64 (k : Nat), h')
                  | none => none) else none
              | _ => none
            | _ => none
          | none => none)
        | none => none
      | _ => none
    | none => none
  | _ => none

theorem copyE.of {ts : List TypeId} {dst src u : V} {h' : HS} {k : V → St → Prop} (h : copyE E ts dst src es.h = some (u, h')) (hk : k u (({ es with h := h' } : ES).st nt)) : copyVC E ts dst src (es.st nt) k := by
  unfold copyE at h
  unfold copyVC
  split at h
  · rename_i t t'
    split at h
    · rename_i ti hti
      simp only [hti]
      split at h
      · rename_i e hd
        simp only [hd]
        split at h
        · rename_i te hte
          simp only [hte]
          cases hz : Nat.beq te.size 0 with
          | true => rw [hz] at h; cases h
          | false =>
          rw [hz] at h
          simp only [cond_false] at h
          simp only [cond_false]
          split at h
          · rename_i n g hsrc
            refine srcTE.of hsrc ?_
            split at h
            · have := some_eq h
              injection this with e1 e2
              subst e1; subst e2
              exact hk
            · have := some_eq h
              injection this with e1 e2
              subst e1; subst e2
              exact hk
            · rename_i c off nd qd sz
              split at h
              · rename_i ty nn q sz' f hc
                have := getC.of hc
                simp only [ES.st, this]
                cases hb : ((Nat.beq sz te.size && Nat.beq sz' te.size) && Nat.ble (off + nd) nn) with
                | false => rw [hb] at h; cases h
                | true =>
                  rw [hb] at h
                  obtain ⟨h1, h2⟩ := Bool.and_eq_true_iff.1 hb
                  simp only [cond_true, fN_eq] at h
                  rw [h1]
                  refine ⟨Nat.le_of_ble_eq_true h2, ?_⟩
                  split at h
                  · rename_i h1' hs1
                    have := some_eq h
                    injection this with e1 e2
                    subst e1; subst e2
                    obtain ⟨g1, g2⟩ := setC.of hs1
                    refine setK.mk g1 ?_
                    have e2 : ({ es.st nt with hp := (es.st nt).hp.set c (some (.rows ty nn q sz' (overF off (minB nd n) g f))) } : St) = ({ es with h := h1' } : ES).st nt := by
                      show (⟨_, _, _⟩ : St) = ⟨_, _, _⟩
                      congr 1
                      exact g2.symm
                    show k _ { es.st nt with hp := (es.st nt).hp.set c _ }
                    rw [e2]
                    exact hk
                  · cases h
              · cases h
            · cases h
          · cases h
        · cases h
      · cases h
    · cases h
  · cases h

end
end
end Go.E
