/-
  THE ENGINE, PART 7: new variables, slices made, and one operation whatever it is; a region of operations; code.
-/
import Derived.Test.YtnhkaggpknfeeaaGreatDoorEng6
namespace Go.E
open Go

section
variable {E : Env} {nt : Nat} {w0 : World} {S0 W0 : Nat → Prop} {m : Nat} {ρ0 ρ : Nat → Bk} {S : Nat → Prop} {w w' : World} {s : St} {a : Act}

def lenK {α : Type} : List α → (Nat → Prop) → Prop
  | [], k => k 0
  | _ :: l, k => lenK l fun n => k (n + 1)
theorem lenK.out {α : Type} : ∀ {l : List α} {k : Nat → Prop}, lenK l k → k l.length
  | [], _, h => h
  | _ :: l, k, h => lenK.out (l := l) (k := fun n => k (n + 1)) h
def snocK {α : Type} : List α → α → (List α → Prop) → Prop
  | [], x, k => k [x]
  | y :: l, x, k => snocK l x fun r => k (y :: r)
theorem snocK.out {α : Type} : ∀ {l : List α} {x : α} {k : List α → Prop}, snocK l x k → k (l ++ [x])
  | [], _, _, h => h
  | y :: l, _, k, h => snocK.out (l := l) (k := fun r => k (y :: r)) h

/-- A new chunk. -/
def newC (s : St) (ch : Ch) (k : Nat → St → Prop) : Prop := lenK s.hp fun n => snocK s.hp (some ch) fun hp' => k n { s with hp := hp' }
theorem newC.out {ch : Ch} {k : Nat → St → Prop} (h : newC s ch k) : k s.hp.length (s.push ch) := by
  have h1 := lenK.out h
  exact snocK.out (l := s.hp) (k := fun hp' => k s.hp.length { s with hp := hp' }) h1

def ofValD : Value → D
  | .slice none 0 0 => .sl (some true) 0 1 fun _ => []
  | v => .v v
theorem RD.ofValD {x : Value} (h : Go.E.cellVal x = true) : RD S w (ofValD x) x := by
  unfold Go.E.ofValD
  split
  · exact .nil (by simp)
  · exact .v h

/-- The chunk of a new variable holds cells. -/
theorem fresh_cells {N cap : Nat} {vs : List V} {xs : List Value} (ty : TypeId) (h : RVs ρ N S w vs xs) (hc : ∀ x ∈ xs, cellVal x = true) (hN : N = s.hp.length) (hold : ∀ b, S b → b < w.heap.size) :
    HC (more ρ s.hp.length ⟨w.heap.size, cap⟩) (s.hp.length + 1) S (w.alloc (.cells xs.toArray ty)) s.hp.length (.cells ty vs) := by
  subst hN
  refine ⟨xs, by rw [more_new]; exact heap_alloc_new _ _, ?_, hc⟩
  exact h.mono (by omega) (fun c h => more_old h) (fun _ h => h) (fun b h => heap_alloc_old _ _ (hold b h))

/-! ### a variable: at its zero; of a value -/
def allocVC (E : Env) (t : TypeId) (s : St) (k : V → St → Prop) : Prop := match E.T t with
  | some ti => mapK ofVal ti.zero fun vs => newC s (.cells t vs) fun n s' => k (.loc n 0) s'
  | none => False

theorem RVs.ofVal {N} : ∀ {xs : List Value}, xs.all cellVal = true → RVs ρ N S w (xs.map ofVal) xs
  | [], _ => .nil
  | x :: xs, h => by
    simp only [List.all_cons, Bool.and_eq_true] at h
    exact .cons (.ofVal h.1) (RVs.ofVal h.2)

theorem allocVC.out {t : TypeId} {k : V → St → Prop} (hE : E.Ok) (inv : Inv E nt w0 S0 W0 m ρ0 ρ S w s a) (h : allocVC E t s k) :
    ∃ x w' ρ' s' v, (Instr.alloc t true (.tuple #[])).run E.P w = .ok x w' ∧ Inv E nt w0 S0 W0 m ρ0 ρ' S w' s' a ∧ RV ρ' s'.hp.length S w' v x ∧ k v s' := by
  unfold allocVC at h
  split at h
  · rename_i ti hti
    have hT := hE.T t ti hti
    obtain ⟨i, z, h1, h2, h3, h4, h5, h6, h7⟩ := hT.inf
    obtain h := (mapK.out h)
    have h8 := newC.out h
    have hz : z.cells = ti.zero.toArray := by rw [← h5]
    refine ⟨.pointer (some ⟨w.heap.size, 0, none⟩), w.alloc (.cells ti.zero.toArray t), more ρ s.hp.length ⟨w.heap.size, 0⟩, _, _, ?_, inv.fresh (fresh_cells t (.ofVal h6) (by simpa using h6) rfl inv.heap.old), ?_, h8⟩
    · simp [Instr.alloc, zeroValue, typeInfo, h1, h4, newVar, newRow, hz]
    · have := RV.loc (ρ := more ρ s.hp.length ⟨w.heap.size, 0⟩) (N := s.hp.length + 1) (S := S) (w := w.alloc (.cells ti.zero.toArray t)) (c := s.hp.length) (off := 0) (by omega)
      rw [more_new] at this
      simpa [St.push] using this
  · exact h.elim

def boxVC (t : TypeId) (s : St) (v : V) (k : V → St → Prop) : Prop := noTup v (newC s (.cells t (cellsOf v)) fun n s' => k (.loc n 0) s')

theorem boxVC.out {t : TypeId} {v : V} {y : Value} {k : V → St → Prop} (inv : Inv E nt w0 S0 W0 m ρ0 ρ S w s a) (h : boxVC t s v k) (hv : RV ρ s.hp.length S w v y) (hy : ∀ z ∈ y.cells.toList, cellVal z = true) :
    ∃ x w' ρ' s' v', (Instr.box t y).run E.P w = .ok x w' ∧ Inv E nt w0 S0 W0 m ρ0 ρ' S w' s' a ∧ RV ρ' s'.hp.length S w' v' x ∧ k v' s' := by
  obtain ⟨hne, h⟩ := noTup.out h
  have h8 := newC.out h
  have hcs := cellsOf.out hv hne
  refine ⟨.pointer (some ⟨w.heap.size, 0, none⟩), w.alloc (.cells y.cells.toList.toArray t), more ρ s.hp.length ⟨w.heap.size, 0⟩, _, _, ?_, inv.fresh (fresh_cells t hcs hy rfl inv.heap.old), ?_, h8⟩
  · simp [Instr.box, newVar, newRow]
  · have := RV.loc (ρ := more ρ s.hp.length ⟨w.heap.size, 0⟩) (N := s.hp.length + 1) (S := S) (w := w.alloc (.cells y.cells.toList.toArray t)) (c := s.hp.length) (off := 0) (by omega)
    rw [more_new] at this
    simpa [St.push] using this

/-! ### a slice that is made -/
def makeVC (E : Env) (t : TypeId) (s : St) (l c : V) (k : V → St → Prop) : Prop := match E.T t with
  | some ti => match ti.desc with
    | .slice e => match E.T e with
      | some te => vint l fun _ L => vint c fun _ C => (0 ≤ L ∧ L ≤ C ∧ (te.bytes : Int) * C ≤ 281474976710656 ∧ C ≤ 9223372036854775807) ∧
          bif Nat.beq te.size 0 then False else mapK ofVal te.zero fun z => newC s (.rows e C.toNat (some C.toNat) te.size fun _ => z) fun n s' => k (.ms n 0 L.toNat none te.size) s'
      | none => False
    | _ => False
  | none => False

theorem makeVC.out {t : TypeId} {l c : V} {x y : Value} {k : V → St → Prop} (hE : E.Ok) (inv : Inv E nt w0 S0 W0 m ρ0 ρ S w s a) (h : makeVC E t s l c k)
    (hl : RV ρ s.hp.length S w l x) (hc : RV ρ s.hp.length S w c y) :
    ∃ z w' ρ' s' v', (Instr.makeSlice t x y).run E.P w = .ok z w' ∧ Inv E nt w0 S0 W0 m ρ0 ρ' S w' s' a ∧ RV ρ' s'.hp.length S w' v' z ∧ k v' s' := by
  unfold makeVC at h
  split at h
  · rename_i ti hti
    have hu := und_eq hE hti
    split at h
    · rename_i e hd
      rw [hd] at hu
      split at h
      · rename_i te hte
        obtain ⟨q, L, rfl, h⟩ := h.out hl
        obtain ⟨q', C, rfl, h⟩ := h.out hc
        obtain ⟨⟨g1, g2, g3, g4⟩, h⟩ := h
        cases hz : Nat.beq te.size 0 with
        | true => rw [hz] at h; exact h.elim
        | false =>
          rw [hz] at h
          have hz' : te.size ≠ 0 := Nat.ne_of_beq_eq_false hz
          obtain ⟨i, z, h1, h2, h3, h4, h5, h6, h7⟩ := (hE.T _ _ hte).inf
          have h := newC.out (mapK.out h)
          have hrun := run_make w t e i z hu h1 h4 q q' L C g1 g2 (by rw [h3]; exact g3) g4
          rw [h2] at hrun
          have hzc : z.cells = te.zero.toArray := by rw [← h5]
          rw [hzc] at hrun
          have hcl : L.toNat ≤ C.toNat := by omega
          have hall : ∀ x ∈ (madeCells te.zero.toArray (C.toNat * te.size)).toList, cellVal x = true := by
            intro x hx
            simp only [madeCells, Array.toList_map, Array.toList_range, List.mem_map, List.mem_range] at hx
            obtain ⟨b, _, rfl⟩ := hx
            have hlt : b % te.zero.length < te.zero.length := Nat.mod_lt _ (by omega)
            have e : te.zero.toArray[b % te.zero.toArray.size]! = te.zero[b % te.zero.length] := by simp [hlt]
            rw [e]
            exact (List.all_eq_true.1 h6) _ (List.getElem_mem hlt)
          refine ⟨_, _, more ρ s.hp.length ⟨w.heap.size, C.toNat⟩, _, _, hrun, inv.fresh ?_, ?_, h⟩
          · refine ⟨(madeCells te.zero.toArray (C.toNat * te.size)).toList, by rw [more_new]; exact heap_alloc_new _ _, ⟨by rw [more_new]; exact Nat.le_refl _, by rw [more_new]; unfold maxLen; simp only; omega, by rw [more_new]; simp [madeCells], fun k hk => by rw [more_new]; exact Option.some.inj hk, hall⟩, fun i hi => ⟨by simpa using h7, fun k d hk => ?_⟩⟩
            rw [List.getElem?_map] at hk
            have hkl : k < te.size := by
              rcases Nat.lt_or_ge k te.size with h | h
              · exact h
              · rw [List.getElem?_eq_none (by omega)] at hk; simp at hk
            have hkl' : k < te.zero.length := by omega
            rw [List.getElem?_eq_getElem hkl'] at hk
            simp at hk; subst hk
            have hidx : i * te.size + k < C.toNat * te.size := by
              have : i * te.size + te.size ≤ C.toNat * te.size := by rw [← Nat.succ_mul]; exact Nat.mul_le_mul_right _ hi
              omega
            refine ⟨te.zero[k], ?_, .ofVal ?_⟩
            · have hmod : (i * te.size + k) % te.size = k := by
                rw [Nat.add_comm, Nat.add_mul_mod_self_right, Nat.mod_eq_of_lt hkl]
              rw [Array.getElem?_toList]
              simp [madeCells, hidx, h7, hmod, List.getElem?_eq_getElem hkl']
            · exact (List.all_eq_true.1 h6) _ (List.getElem_mem hkl')
          · have := RV.ms (ρ := more ρ s.hp.length ⟨w.heap.size, C.toNat⟩) (N := s.hp.length + 1) (S := S) (w := w.alloc (.cells (madeCells te.zero.toArray (C.toNat * te.size)) e)) (c := s.hp.length) (off := 0) (sz := te.size) (n := L.toNat) (q := none) (by omega) (by rw [more_new]; exact hcl) (by rw [more_new]; simp [capOf])
            rw [more_new, Nat.zero_mul] at this
            simpa [St.push, capOf] using this
      · exact h.elim
    · exact h.elim
  · exact h.elim

end
end Go.E
