/-
  THE ENGINE, PART 6: the operations that call nothing.
-/
import Derived.Test.YtnhkaggpknfeeaaGreatDoorEng5
namespace Go.E
open Go

section
variable {E : Env} {nt : Nat} {w0 : World} {S0 W0 : Nat → Prop} {m : Nat} {ρ0 ρ : Nat → Bk} {S : Nat → Prop} {w w' : World} {s : St} {a : Act}

theorem run_isAgg {P : Program} {t : TypeId} {d : TypeDesc} (h : P.underlying t = some d) (w : World) : (isAgg t).run P w = .ok (isAggD d) w := by
  cases d <;> simp [isAgg, run_underlying h, isAggD]

theorem TOk.size {P : Program} {t : TypeId} {ti : TI} (h : TOk P t ti) (w : World) : (sizeOf t).run P w = .ok ti.size w := by
  obtain ⟨i, z, h1, h2, _⟩ := h.inf
  simp [sizeOf, typeInfo, h1, h2]

/-! ### load -/
def loadK (ti : TI) (vs : List V) (k : V → Prop) : Prop := match isAggD ti.desc with
  | true => k (.agg vs)
  | false => match vs with
    | [x] => k x
    | _ => False
def loadVC (E : Env) (t : TypeId) (s : St) (p : V) (k : V → Prop) : Prop := match E.T t with
  | some ti => cellsAt s p ti.size fun vs => loadK ti vs k
  | none => False

theorem loadVC.out {t : TypeId} {p : V} {x : Value} {k : V → Prop} (hE : E.Ok) (inv : Inv E nt w0 S0 W0 m ρ0 ρ S w s a) (h : loadVC E t s p k) (hr : RV ρ s.hp.length S w p x) :
    ∃ v y, (∀ w', Same (Known ρ S s.hp) w w' → (Instr.loadAt t x).run E.P w' = .ok y w') ∧ RV ρ s.hp.length S w v y ∧ k v := by
  unfold loadVC at h
  split at h
  · rename_i ti hti
    have hT := hE.T t ti hti
    obtain ⟨b, off, vs, xs, rfl, hl, hvs, hc, hc1, hkn, h⟩ := cellsAt.out inv h hr
    have hagg := fun w => run_isAgg hT.und w
    replace hc : ∀ w', Same (Known ρ S s.hp) w w' → ∀ (j : Nat) v, xs[j]? = some v → w'.cell? ⟨b, off + j, none⟩ = some v := fun w' hw j v hv => (hw.cell hkn).trans (hc j v hv)
    have hlen : xs.length = ti.size := by rw [← hl]; exact hvs.1.symm
    unfold loadK at h
    cases hq : isAggD ti.desc with
    | true =>
      rw [hq] at h
      refine ⟨.agg vs, .agg xs.toArray, fun w' hw => ?_, .agg hvs.1 hvs.2, h⟩
      have hld := run_loadCells_list (P := E.P) w' ⟨b, off, none⟩ xs (fun j v hv => by
        have := hc w' hw j v hv
        rw [← this]
        congr 1
        unfold Addr.add
        split <;> simp_all)
      simp [Instr.loadAt, Instr.sureAddr, loadVar, hagg, hq, hT.size, ← hlen, hld]
    | false =>
      rw [hq] at h
      match vs, h, hvs with
      | [u], h, hvs =>
        obtain ⟨y, ys, rfl, h1, h2⟩ := hvs.cons_eq
        have := h2.nil_eq
        subst this
        refine ⟨u, y, fun w' hw => ?_, h1, h⟩
        have := hc w' hw 0 y rfl
        simp [Instr.loadAt, Instr.sureAddr, loadVar, hagg, hq]
        simp only [Nat.add_zero] at this
        rw [this]
  · exact h.elim

/-! ### store -/
def noTup (v : V) (q : Prop) : Prop := match v with
  | .tup _ => False
  | _ => q
theorem noTup.out {v : V} {q : Prop} (h : noTup v q) : (∀ vs, v ≠ .tup vs) ∧ q := by
  cases v <;> simp_all [noTup]
def storeVC (E : Env) (t : TypeId) (s : St) (p v : V) (k : St → Prop) : Prop := match E.T t with
  | some ti => noTup v (bif Nat.beq (cellsOf v).length ti.size then putAt s p (cellsOf v) k else False)
  | none => False

theorem storeVC.out {t : TypeId} {p v : V} {x y : Value} {k : St → Prop} (hE : E.Ok) (inv : Inv E nt w0 S0 W0 m ρ0 ρ S w s a) (h : storeVC E t s p v k) (hr : RV ρ s.hp.length S w p x)
    (hv : RV ρ s.hp.length S w v y) (hy : ∀ z ∈ y.cells.toList, cellVal z = true) :
    ∃ w' s', (Instr.storeAt t x y).run E.P w = .ok () w' ∧ Inv E nt w0 S0 W0 m ρ0 ρ S w' s' a ∧ k s' := by
  unfold storeVC at h
  split at h
  · rename_i ti hti
    obtain ⟨hne, h⟩ := h.out
    have hT := hE.T t ti hti
    cases hz : Nat.beq (cellsOf v).length ti.size with
    | false => rw [hz] at h; exact h.elim
    | true =>
      rw [hz] at h
      have hlen := Nat.eq_of_beq_eq_true hz
      have hcs := cellsOf.out hv hne
      obtain ⟨b, off, w', s', rfl, h1, h2, h3⟩ := putAt.out inv h hr hcs hy
      refine ⟨w', s', ?_, h2, h3⟩
      have hsz : y.cells.size = ti.size := by rw [← hlen]; simpa using hcs.1.symm
      simp [Instr.storeAt, Instr.sureAddr, storeVar, hT.size, hsz, h1]
  · exact h.elim

/-! ### a field's place -/
def addP (p : V) (o : Nat) (k : V → Prop) : Prop := match p with
  | .loc c off => k (.loc c (off + o))
  | .pp ds => dropK o ds fun r => k (.pp r)
  | .re c i kk sz => k (.re c i (kk + o) sz)
  | _ => False
def fieldVC (E : Env) (t : TypeId) (p : V) (f : Nat) (k : V → Prop) : Prop := match E.T t with
  | some ti => match ti.desc with
    | .struct fs => match nth fs.toList f with
      | some fd => match E.T fd.type with
        | some tf => bif Nat.beq tf.size 0 then False else addP p fd.offset k
        | none => False
      | none => False
    | _ => False
  | none => False

theorem Addr.add_at (b off n : Nat) : (⟨b, off, none⟩ : Addr).add n = ⟨b, off + n, none⟩ := by unfold Addr.add; split <;> simp_all

theorem addP.out {N} {p : V} {x : Value} {o : Nat} {k : V → Prop} (h : addP p o k) (hr : RV ρ N S w p x) :
    ∃ b off v, x = .pointer (some ⟨b, off, none⟩) ∧ RV ρ N S w v (.pointer (some ⟨b, off + o, none⟩)) ∧ k v := by
  unfold addP at h
  split at h
  · cases hr with | loc hc => exact ⟨_, _, _, rfl, .loc hc, h⟩
  · obtain ⟨h1, h2⟩ := h.out
    cases hr with | pp g hb hc hd =>
    refine ⟨_, _, _, rfl, .pp (fun k => g (o + k)) hb (fun k hk => ?_) (fun k d hk => ?_), h2⟩
    · rw [show ∀ q : Nat, q + o + k = q + (o + k) by omega]
      exact hc _ (by simp at hk; omega)
    · rw [List.getElem?_drop] at hk; exact hd _ _ hk
  · cases hr with | re hc =>
    refine ⟨_, _, _, rfl, ?_, h⟩
    rw [Nat.add_assoc]; exact .re hc
  · exact h.elim

theorem fieldVC.out {N} {t : TypeId} {p : V} {x : Value} {f : Nat} {k : V → Prop} (hE : E.Ok) (h : fieldVC E t p f k) (hr : RV ρ N S w p x) :
    ∃ v y, (∀ w, (Instr.fieldAt t x f).run E.P w = .ok y w) ∧ RV ρ N S w v y ∧ k v := by
  unfold fieldVC at h
  split at h
  · rename_i ti hti
    have hu := und_eq hE hti
    split at h
    · rename_i fs hd
      rw [hd] at hu
      rw [nth_eq] at h
      split at h
      · rename_i fd hf
        split at h
        · rename_i tf htf
          cases hz : Nat.beq tf.size 0 with
          | true => rw [hz] at h; exact h.elim
          | false =>
            rw [hz] at h
            obtain ⟨b, off, v, rfl, h1, h2⟩ := addP.out h hr
            have hsz := fun w => (hE.T _ _ htf).size w
            have hz' : tf.size ≠ 0 := Nat.ne_of_beq_eq_false hz
            have hf' : fs[f]? = some fd := by rw [← Array.getElem?_toList]; exact hf
            refine ⟨v, _, ?_, h1, h2⟩
            simp [Instr.fieldAt, run_underlying hu, hf', Instr.sureAddr, fieldPlace, hsz, hz', Addr.add_at]
        · exact h.elim
      · exact h.elim
    · exact h.elim
  · exact h.elim

/-! ### an element's place -/
def vint (v : V) (k : IntKind → Int → Prop) : Prop := match v with
  | .d (.v (.int q n)) => k q n
  | _ => False
theorem vint.out {N} {v : V} {x : Value} {k : IntKind → Int → Prop} (h : vint v k) (hr : RV ρ N S w v x) : ∃ q n, x = .int q n ∧ k q n := by
  unfold vint at h
  split at h
  · have := RV.scalar hr; subst this; exact ⟨_, _, rfl, h⟩
  · exact h.elim

def indexVC (E : Env) (t : TypeId) (s : St) (p i : V) (k : V → Prop) : Prop := match E.T t with
  | some ti => vint i fun _ j => match ti.desc with
    | .slice e => match E.T e, p with
      | some te, .d (.sl _ n sz f) => bif Nat.beq sz te.size then (0 ≤ j ∧ j < n) ∧ k (.pp (f j.toNat)) else False
      | some te, .ms c off n _ sz => bif Nat.beq sz te.size then (0 ≤ j ∧ j < n) ∧ k (.re c (off + j.toNat) 0 sz) else False
      | _, _ => False
    | .array l e => match E.T e, p with
      | some te, .pr n sz f => bif Nat.beq sz te.size && Nat.beq n l then (0 ≤ j ∧ j < n) ∧ k (.pp (f j.toNat)) else False
      | some te, .loc c off => (0 ≤ j ∧ j < l) ∧ k (.loc c (off + j.toNat * te.size))
      | _, _ => False
    | _ => False
  | none => False

theorem indexVC.out {t : TypeId} {p i : V} {x y : Value} {k : V → Prop} (hE : E.Ok) (h : indexVC E t s p i k) (hr : RV ρ s.hp.length S w p x) (hi : RV ρ s.hp.length S w i y) :
    ∃ v z, (∀ w, (Instr.indexAt t x y).run E.P w = .ok z w) ∧ RV ρ s.hp.length S w v z ∧ k v := by
  unfold indexVC at h
  split at h
  · rename_i ti hti
    have hu := und_eq hE hti
    obtain ⟨q, j, rfl, hh⟩ := h.out hi
    clear h
    have h := hh
    clear hh
    split at h
    · rename_i e hd
      rw [hd] at hu
      split at h
      · rename_i te b n sz f hte
        cases hz : Nat.beq sz te.size with
        | false => rw [hz] at h; exact h.elim
        | true =>
          rw [hz] at h
          have hz' := Nat.eq_of_beq_eq_true hz
          subst hz'
          obtain ⟨⟨h1, h2⟩, h3⟩ := (show (0 ≤ j ∧ j < n) ∧ _ from h)
          have hsz := fun w => (hE.T _ _ hte).size w
          cases hr with | d hr =>
          cases hr with
          | nil _ => omega
          | e _ => omega
          | sl g hq hb hn hl hc hd' =>
            rename_i b' off cap
            have hj : j.toNat < n := by omega
            refine ⟨_, _, ?_, .pp (b := b') (off := off + j.toNat * te.size) (g j.toNat) hb (fun k hk => ?_) (fun k d hk => hd' _ _ _ hj hk), h3⟩
            · simp [Instr.indexAt, asIntOf, run_underlying hu, h1, h2, hsz, Addr.add_at]
            · rw [hl _ hj] at hk
              rw [Nat.add_assoc]; exact hc _ _ hj hk
      · rename_i te c off n cap sz hte
        cases hz : Nat.beq sz te.size with
        | false => rw [hz] at h; exact h.elim
        | true =>
          rw [hz] at h
          have hz' := Nat.eq_of_beq_eq_true hz
          subst hz'
          obtain ⟨⟨h1, h2⟩, h3⟩ := (show (0 ≤ j ∧ j < n) ∧ _ from h)
          have hsz := fun w => (hE.T _ _ hte).size w
          cases hr with | ms hc hn hm =>
          refine ⟨_, _, ?_, .re hc, h3⟩
          simp [Instr.indexAt, asIntOf, run_underlying hu, h1, h2, hsz, Addr.add_at, Nat.add_mul]
      · exact h.elim
    · rename_i l e hd
      rw [hd] at hu
      split at h
      · rename_i te n sz f hte
        cases hz : (Nat.beq sz te.size && Nat.beq n l) with
        | false => rw [hz] at h; exact h.elim
        | true =>
          rw [hz] at h
          obtain ⟨ha, hb⟩ := Bool.and_eq_true_iff.1 hz
          have hz' := Nat.eq_of_beq_eq_true ha
          have hn' := Nat.eq_of_beq_eq_true hb
          subst hz'; subst hn'
          obtain ⟨⟨h1, h2⟩, h3⟩ := (show (0 ≤ j ∧ j < n) ∧ _ from h)
          have hsz := fun w => (hE.T _ _ hte).size w
          have hj : j.toNat < n := by omega
          cases hr with | pr g hb hl hc hd' =>
          rename_i b' off
          refine ⟨_, _, ?_, .pp (b := b') (off := off + j.toNat * te.size) (g j.toNat) hb (fun k hk => ?_) (fun k d hk => hd' _ _ _ hj hk), h3⟩
          · simp [Instr.indexAt, Instr.sureAddr, asIntOf, run_underlying hu, h1, h2, hsz, Addr.add_at]
          · rw [hl _ hj] at hk
            rw [Nat.add_assoc]; exact hc _ _ hj hk
      · rename_i te c off hte
        obtain ⟨⟨h1, h2⟩, h3⟩ := h
        have hsz := fun w => (hE.T _ _ hte).size w
        cases hr with | loc hc =>
        refine ⟨_, _, ?_, .loc hc, h3⟩
        simp [Instr.indexAt, Instr.sureAddr, asIntOf, run_underlying hu, h1, h2, hsz, Addr.add_at]
      · exact h.elim
    · exact h.elim
  · exact h.elim

end
end Go.E
