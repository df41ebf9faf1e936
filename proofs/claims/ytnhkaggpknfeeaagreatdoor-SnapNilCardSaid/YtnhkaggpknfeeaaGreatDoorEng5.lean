/-
  THE ENGINE, PART 5: stores, fields, elements, new variables and slices.
-/
import Derived.Test.YtnhkaggpknfeeaaGreatDoorEng4
namespace Go.E
open Go

section
variable {E : Env} {nt : Nat} {w0 : World} {S0 W0 : Nat → Prop} {m : Nat} {ρ0 ρ : Nat → Bk} {S : Nat → Prop} {w w' : World} {s : St} {a : Act}

theorem setL_single {α : Type} (l : List α) (c : Nat) (x : α) (h : c < l.length) : setL c [x] l = l.set c x := by
  unfold setL
  rw [List.set_eq_take_append_cons_drop, if_pos h]
  simp

def unD : List V → (List D → Prop) → Prop
  | [], k => k []
  | .d x :: l, k => unD l fun r => k (x :: r)
  | _ :: _, _ => False
theorem unD.out : ∀ {l : List V} {k : List D → Prop}, unD l k → ∃ ds, l = ds.map V.d ∧ k ds
  | [], k, h => ⟨[], rfl, h⟩
  | .d x :: l, k, h => by
    obtain ⟨ds, rfl, h'⟩ := unD.out (show unD l (fun r => k (x :: r)) from h)
    exact ⟨x :: ds, rfl, h'⟩
  | .pp _ :: _, _, h | .pr _ _ _ :: _, _, h | .loc _ _ :: _, _, h | .re _ _ _ _ :: _, _, h | .ms _ _ _ _ _ :: _, _, h | .z _ :: _, _, h | .mp _ :: _, _, h | .yl _ :: _, _, h | .agg _ :: _, _, h | .fn _ _ _ :: _, _, h | .tup _ :: _, _, h => h.elim

/-- The cells of a value. -/
def cellsOf : V → List V
  | .agg vs => vs
  | v => [v]

theorem cellsOf.out {N} {v : V} {x : Value} (hr : RV ρ N S w v x) (ht : ∀ vs, v ≠ .tup vs) : RVs ρ N S w (cellsOf v) x.cells.toList := by
  cases hr with
  | agg hl h => exact ⟨by simpa [cellsOf, Value.cells] using hl, by simpa [cellsOf, Value.cells] using h⟩
  | d h =>
    have := h.cellVal
    have e : x.cells = #[x] := by cases x <;> simp_all [Value.cells, Value.oneCell']
    simp only [cellsOf, e]
    exact .cons (.d h) .nil
  | tup hl h => exact absurd rfl (ht _)
  | pp g h1 h2 h3 => exact .cons (.pp g h1 h2 h3) .nil
  | pr g h1 h2 h3 h4 => exact .cons (.pr g h1 h2 h3 h4) .nil
  | loc h => exact .cons (.loc h) .nil
  | re h => exact .cons (.re h) .nil
  | ms h h' h'' => exact .cons (.ms h h' h'') .nil
  | z0 h => exact .cons (.z0 h) .nil
  | z1 h => exact .cons (.z1 h) .nil
  | mp h => exact .cons (.mp h) .nil
  | yl h => exact .cons (.yl h) .nil
  | fn h1 h2 h3 h4 => exact .cons (.fn h1 h2 h3 h4) .nil

/-- Cells are written at a pointer. -/
def putAt (s : St) (p : V) (vs : List V) (k : St → Prop) : Prop := match p with
  | .loc c off => match nth s.hp c with
    | some (some (.cells ty old)) => setK off vs old fun r => setK c [some (.cells ty r)] s.hp fun hp' => k { s with hp := hp' }
    | _ => False
  | .re c i kk sz => match nth s.hp c with
    | some (some (.rows ty n cap sz' f)) => bif Nat.beq sz' sz then i < n ∧ setK kk vs (f i) fun g => setK c [some (.rows ty n cap sz' fun j => bif Nat.beq j i then g else f j)] s.hp fun hp' => k { s with hp := hp' } else False
    | _ => False
  | _ => False

theorem setL_length {α : Type} {n : Nat} {vs l : List α} (h : n + vs.length ≤ l.length) : (setL n vs l).length = l.length := by
  simp [setL]; omega
theorem setL_get {α : Type} {n : Nat} {vs l : List α} (h : n + vs.length ≤ l.length) (j : Nat) : (setL n vs l)[j]? = if n ≤ j ∧ j < n + vs.length then vs[j - n]? else l[j]? := by
  unfold setL
  by_cases h1 : j < n
  · rw [List.append_assoc, List.getElem?_append_left (by simp; omega), List.getElem?_take, if_pos h1, if_neg (by omega)]
  · by_cases h2 : j < n + vs.length
    · rw [List.getElem?_append_left (by simp; omega), List.getElem?_append_right (by simp; omega), if_pos ⟨by omega, h2⟩]
      congr 1; simp; omega
    · rw [List.getElem?_append_right (by simp; omega), if_neg (by omega), List.getElem?_drop]
      congr 1; simp; omega

theorem setL_all {n : Nat} {vs l : List Value} (h1 : ∀ x ∈ vs, cellVal x = true) (h2 : ∀ x ∈ l, cellVal x = true) : ∀ x ∈ setL n vs l, cellVal x = true := by
  intro y hy
  simp only [setL, List.mem_append] at hy
  rcases hy with (hy | hy) | hy
  · exact h2 _ (List.mem_of_mem_take hy)
  · exact h1 _ hy
  · exact h2 _ (List.mem_of_mem_drop hy)

theorem RVs.setL {N} {vs us : List V} {xs ys : List Value} {n : Nat} (h : RVs ρ N S w us ys) (g : RVs ρ N S w vs xs) (hn : n + vs.length ≤ us.length) :
    RVs ρ N S w (setL n vs us) (setL n xs ys) := by
  have hl := h.1
  have gl := g.1
  refine ⟨by rw [setL_length hn, setL_length (by omega), hl], fun j u v hu hv => ?_⟩
  rw [setL_get hn] at hu
  rw [setL_get (by omega)] at hv
  split at hu
  · rename_i hj; rw [if_pos (by omega)] at hv; exact g.2 _ _ _ hu hv
  · rename_i hj; rw [if_neg (by omega)] at hv; exact h.2 _ _ _ hu hv

theorem putAt.out {p : V} {x : Value} {vs : List V} {xs : List Value} {k : St → Prop} (inv : Inv E nt w0 S0 W0 m ρ0 ρ S w s a) (h : putAt s p vs k) (hr : RV ρ s.hp.length S w p x)
    (hv : RVs ρ s.hp.length S w vs xs) (hc1 : ∀ x ∈ xs, cellVal x = true) :
    ∃ b off w' s', x = .pointer (some ⟨b, off, none⟩) ∧ (storeCells ⟨b, off, none⟩ xs).run E.P w = .ok () w' ∧ Inv E nt w0 S0 W0 m ρ0 ρ S w' s' a ∧ k s' := by
  unfold putAt at h
  split at h
  · rename_i c off
    rw [nth_eq] at h
    split at h
    · rename_i ty old hc
      obtain ⟨h1, h2⟩ := h.out
      obtain ⟨h3, h4⟩ := h2.out
      rw [setL_single _ _ _ (by simp at h3; omega)] at h4
      cases hr with | loc hcN =>
      obtain ⟨ys, g1, g2, g3⟩ := inv.heap.at_ c _ hc
      have e1 := hv.1
      have e2 := g2.1
      have hst := run_storeCells_at E.P (ρ c).b off ty xs 0 ys.toArray w g1 (by simp; omega) hc1
      have hS : Same S w (w.setRow (ρ c).b (setL off xs ys).toArray) := fun b hb => setRow_other _ _ _ _ (fun e => inv.heap.out c _ hc (e ▸ hb))
      refine ⟨(ρ c).b, off, w.setRow (ρ c).b (setL off xs ys).toArray, _, rfl, ?_, inv.turn hc (fun b hb => setRow_other _ _ _ _ hb) (by simp [World.setRow]) rfl rfl rfl ?_, h4⟩
      · simpa [setL] using hst
      · refine ⟨setL off xs ys, setRow_heap _ _ _ _ _ _ g1, (g2.setL hv (by omega)).mono (Nat.le_refl _) (fun _ _ => rfl) (fun _ h => h) hS, ?_⟩
        intro y hy
        simp only [setL, List.mem_append] at hy
        rcases hy with (hy | hy) | hy
        · exact g3 _ (List.mem_of_mem_take hy)
        · exact hc1 _ hy
        · exact g3 _ (List.mem_of_mem_drop hy)
    · exact h.elim
  · rename_i c i kk sz
    rw [nth_eq] at h
    split at h
    · rename_i ty n cap sz' f hc
      cases hz : Nat.beq sz' sz with
      | false => rw [hz] at h; exact h.elim
      | true =>
        rw [hz] at h
        have hz' : sz' = sz := Nat.eq_of_beq_eq_true hz
        subst hz'
        obtain ⟨hi, h⟩ := (show i < n ∧ _ from h)
        obtain ⟨h1, h2⟩ := h.out
        obtain ⟨h3, h4⟩ := h2.out
        rw [setL_single _ _ _ (by simp at h3; omega)] at h4
        cases hr with | re hcN =>
        obtain ⟨ys, g1, g2, g3⟩ := inv.heap.at_ c _ hc
        have e1 : vs.length = xs.length := hv.1
        obtain ⟨g4, g5⟩ := g3 i hi
        have h6 : i * sz' + sz' ≤ n * sz' := by rw [← Nat.succ_mul]; exact Nat.mul_le_mul_right _ hi
        have h7 : n * sz' ≤ (ρ c).cap * sz' := Nat.mul_le_mul_right _ g2.1
        have hb : i * sz' + kk + xs.length ≤ ys.length := by have := g2.2.2.1; omega
        have hst := run_storeCells_at E.P (ρ c).b (i * sz' + kk) ty xs 0 ys.toArray w g1 (by simp; omega) hc1
        have hS : Same S w (w.setRow (ρ c).b (setL (i * sz' + kk) xs ys).toArray) := fun b hb => setRow_other _ _ _ _ (fun e => inv.heap.out c _ hc (e ▸ hb))
        refine ⟨(ρ c).b, i * sz' + kk, w.setRow (ρ c).b (setL (i * sz' + kk) xs ys).toArray, _, rfl, ?_, inv.turn hc (fun b hb => setRow_other _ _ _ _ hb) (by simp [World.setRow]) rfl rfl rfl ?_, h4⟩
        · simpa [setL] using hst
        · refine ⟨setL (i * sz' + kk) xs ys, setRow_heap _ _ _ _ _ _ g1, ⟨g2.1, g2.2.1, by rw [setL_length hb]; exact g2.2.2.1, g2.2.2.2.1, setL_all hc1 g2.2.2.2.2⟩, fun j hj => ?_⟩
          obtain ⟨g6, g7⟩ := g3 j hj
          by_cases e : j = i
          · subst e
            simp only [Nat.beq_refl, cond_true]
            refine ⟨by rw [setL_length h1]; exact g4, fun k' d hd => ?_⟩
            rw [setL_get h1] at hd
            rw [setL_get hb]
            split at hd
            · rename_i hk
              rw [if_pos (by omega), show j * sz' + k' - (j * sz' + kk) = k' - kk by omega]
              have hx : k' - kk < xs.length := by omega
              refine ⟨xs[k' - kk], List.getElem?_eq_getElem hx, ?_⟩
              exact (hv.2 (k' - kk) d _ hd (List.getElem?_eq_getElem hx)).mono (Nat.le_refl _) (fun _ _ => rfl) (fun _ h => h) hS
            · rename_i hk
              rw [if_neg (by omega)]
              obtain ⟨b, h7, h8⟩ := g5 k' d hd
              exact ⟨b, h7, h8.mono (Nat.le_refl _) (fun _ _ => rfl) (fun _ h => h) hS⟩
          · have eb : Nat.beq j i = false := by
              cases hq : Nat.beq j i with
              | false => rfl
              | true => exact absurd (Nat.eq_of_beq_eq_true hq) e
            simp only [eb, cond_false]
            refine ⟨g6, fun k' d hd => ?_⟩
            obtain ⟨b, h7, h8⟩ := g7 k' d hd
            refine ⟨b, ?_, h8.mono (Nat.le_refl _) (fun _ _ => rfl) (fun _ h => h) hS⟩
            have hk' : k' < sz' := by rw [← g6]; exact (List.getElem?_eq_some_iff.1 hd).1
            rw [setL_get hb, if_neg ?_, h7]
            intro hh
            rcases Nat.lt_or_gt_of_ne e with hlt | hgt
            · have : j * sz' + sz' ≤ i * sz' := by rw [← Nat.succ_mul]; exact Nat.mul_le_mul_right _ hlt
              omega
            · have : i * sz' + sz' ≤ j * sz' := by rw [← Nat.succ_mul]; exact Nat.mul_le_mul_right _ hgt
              omega
    · exact h.elim
  · exact h.elim

end
end Go.E
