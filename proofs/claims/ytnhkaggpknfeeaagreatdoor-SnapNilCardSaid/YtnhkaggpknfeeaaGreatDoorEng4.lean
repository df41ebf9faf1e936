/-
  THE ENGINE, PART 4: memory: how a state goes on where a chunk turns or a new one comes; loads, stores, fields, new variables.
-/
import Derived.Test.YtnhkaggpknfeeaaGreatDoorEng3
namespace Go.E
open Go

section
variable {E : Env} {nt : Nat} {w0 : World} {S0 W0 : Nat → Prop} {m : Nat} {ρ0 ρ : Nat → Bk} {S : Nat → Prop} {w w' : World} {s : St} {a : Act}

/-! ### a chunk turns -/
theorem Inv.turn {c : Nat} {ch ch' : Ch} (inv : Inv E nt w0 S0 W0 m ρ0 ρ S w s a) (hc : s.hp[c]? = some (some ch))
    (hb : ∀ b, b ≠ (ρ c).b → w'.heap[b]? = w.heap[b]?) (hz : w'.heap.size = w.heap.size) (ho : w'.os = w.os) (ht : w'.tape = w.tape) (hu : w'.output = w.output)
    (hn : HC ρ s.hp.length S w' c ch') : Inv E nt w0 S0 W0 m ρ0 ρ S w' { s with hp := s.hp.set c (some ch') } a := by
  have hcl : c < s.hp.length := (List.getElem?_eq_some_iff.1 hc).1
  have hS : Same S w w' := fun b h => hb b (fun e => inv.heap.out c ch hc (e ▸ h))
  have hat : ∀ c', (s.hp.set c (some ch'))[c']? = if c' = c then some (some ch') else s.hp[c']? := by
    intro c'
    rw [List.getElem?_set]
    by_cases e : c' = c
    · subst e; simp [hcl]
    · rw [if_neg (by omega), if_neg e]
  refine { inv with slots := ?_, heap := ?_, hist := ?_, le := by simpa using inv.le, new := ?_, glob := ?_, defers := inv.defers.mono (by simp) (fun _ _ => rfl) (fun _ h => h) hS }
  · intro i v hv
    obtain ⟨x, hx, hr⟩ := inv.slots i v hv
    exact ⟨x, hx, hr.mono (by simp) (fun _ _ => rfl) (fun _ h => h) hS⟩
  · refine ⟨?_, ?_, ?_, fun b h => by rw [hz]; exact inv.heap.old b h⟩
    · intro c' ch1 h
      rw [hat] at h
      split at h
      · rename_i e; subst e
        injection h with h; injection h with h; subst h
        simpa using hn
      · rename_i e
        have h1 := inv.heap.at_ c' ch1 h
        refine h1.mono (by simp) (fun _ _ => rfl) (fun _ h => h) hS rfl (hb _ fun e' => e (inv.heap.inj _ _ _ _ h hc e'))
    · intro c' ch1 h
      rw [hat] at h
      split at h
      · rename_i e; subst e; exact inv.heap.out _ _ hc
      · exact inv.heap.out _ _ h
    · intro c1 c2 ch1 ch2 h1 h2 e
      rw [hat] at h1 h2
      split at h1 <;> split at h2
      · omega
      · rename_i e1 e2; subst e1; exact inv.heap.inj _ _ _ _ hc h2 e
      · rename_i e1 e2; subst e2; exact inv.heap.inj _ _ _ _ h1 hc e
      · exact inv.heap.inj _ _ _ _ h1 h2 e
  · have h := inv.hist
    refine ⟨ho.trans h.os, ht.trans h.tape, hu.trans h.output, by rw [hz]; exact h.size, fun b hb0 hne => ?_, h.per⟩
    rw [← h.blk b hb0 hne]
    refine hb b fun e => ?_
    rcases inv.new c ch hc with h' | h'
    · omega
    · exact hne (e ▸ h')
  · intro c' ch1 h
    rw [hat] at h
    split at h
    · rename_i e; subst e; exact inv.new _ _ hc
    · exact inv.new _ _ h
  · intro g ds hg
    exact (inv.glob g ds hg).mono (Nat.le_refl _) (fun _ h => absurd h (by omega)) (fun _ h => h) hS

/-! ### a new chunk -/
theorem heap_alloc_old (w : World) (o : Obj) {b : Nat} (h : b < w.heap.size) : (w.alloc o).heap[b]? = w.heap[b]? := by
  show (w.heap.push o)[b]? = _
  rw [Array.getElem?_push, if_neg (by omega)]
theorem heap_alloc_new (w : World) (o : Obj) : (w.alloc o).heap[w.heap.size]? = some o := by
  show (w.heap.push o)[w.heap.size]? = _
  simp
theorem heap_alloc_size (w : World) (o : Obj) : (w.alloc o).heap.size = w.heap.size + 1 := by
  show (w.heap.push o).size = _
  simp

/-- Chunk numbers, one more. -/
def more (ρ : Nat → Bk) (N : Nat) (b : Bk) : Nat → Bk := fun c => if c = N then b else ρ c
theorem more_old {ρ : Nat → Bk} {N : Nat} {b : Bk} {c : Nat} (h : c < N) : more ρ N b c = ρ c := by simp [more]; omega
theorem more_new {ρ : Nat → Bk} {N : Nat} {b : Bk} : more ρ N b N = b := by simp [more]

def St.push (s : St) (ch : Ch) : St := { s with hp := s.hp ++ [some ch] }

theorem Inv.fresh {o : Obj} {ch : Ch} {cap : Nat} (inv : Inv E nt w0 S0 W0 m ρ0 ρ S w s a) (hn : HC (more ρ s.hp.length ⟨w.heap.size, cap⟩) (s.hp.length + 1) S (w.alloc o) s.hp.length ch) :
    Inv E nt w0 S0 W0 m ρ0 (more ρ s.hp.length ⟨w.heap.size, cap⟩) S (w.alloc o) (s.push ch) a := by
  have hS : Same S w (w.alloc o) := fun b h => heap_alloc_old w o (inv.heap.old b h)
  have hρ : ∀ c, c < s.hp.length → more ρ s.hp.length ⟨w.heap.size, cap⟩ c = ρ c := fun c h => more_old h
  have hat : ∀ c' ch1, (s.hp ++ [some ch])[c']? = some (some ch1) → (c' < s.hp.length ∧ s.hp[c']? = some (some ch1)) ∨ (c' = s.hp.length ∧ ch1 = ch) := by
    intro c' ch1 h
    rw [List.getElem?_append] at h
    split at h
    · exact .inl ⟨by assumption, h⟩
    · rename_i e
      rw [List.getElem?_singleton] at h
      split at h
      · injection h with h; injection h with h
        exact .inr ⟨by omega, h.symm⟩
      · simp at h
  refine { inv with slots := ?_, heap := ?_, hist := ?_, par := ?_, le := by simp [St.push]; have := inv.le; omega, new := ?_, glob := ?_, defers := inv.defers.mono (by simp [St.push]) hρ (fun _ h => h) hS }
  · intro i v hv
    obtain ⟨x, hx, hr⟩ := inv.slots i v hv
    exact ⟨x, hx, hr.mono (by simp [St.push]) hρ (fun _ h => h) hS⟩
  · refine ⟨?_, ?_, ?_, fun b h => by rw [heap_alloc_size]; have := inv.heap.old b h; omega⟩
    · intro c' ch1 h
      have hl : (s.push ch).hp.length = s.hp.length + 1 := by simp [St.push]
      rw [hl]
      rcases hat c' ch1 h with ⟨hlt, h⟩ | ⟨rfl, rfl⟩
      · have h1 := inv.heap.at_ c' ch1 h
        exact h1.mono (by omega) hρ (fun _ h => h) hS (hρ _ hlt) (heap_alloc_old w o h1.lt)
      · exact hn
    · intro c' ch1 h
      rcases hat c' ch1 h with ⟨hlt, h⟩ | ⟨rfl, rfl⟩
      · rw [hρ _ hlt]; exact inv.heap.out _ _ h
      · rw [more_new]; intro h; have := inv.heap.old _ h; simp only at this; omega
    · intro c1 c2 ch1 ch2 h1 h2 e
      rcases hat c1 ch1 h1 with ⟨hl1, g1⟩ | ⟨rfl, rfl⟩ <;> rcases hat c2 ch2 h2 with ⟨hl2, g2⟩ | ⟨rfl, rfl⟩
      · rw [hρ _ hl1, hρ _ hl2] at e; exact inv.heap.inj _ _ _ _ g1 g2 e
      · rw [hρ _ hl1, more_new] at e; have := (inv.heap.at_ _ _ g1).lt; simp only at e; omega
      · rw [hρ _ hl2, more_new] at e; have := (inv.heap.at_ _ _ g2).lt; simp only at e; omega
      · rfl
  · have h := inv.hist
    have hz := heap_alloc_size w o
    refine ⟨h.os, h.tape, h.output, by rw [hz]; have := h.size; omega, fun b hb0 hne => ?_, h.per⟩
    rw [← h.blk b hb0 hne]
    exact heap_alloc_old w o (by have := h.size; omega)
  · intro c hc
    rw [hρ c (by have := inv.le; omega)]; exact inv.par c hc
  · intro c' ch1 h
    rcases hat c' ch1 h with ⟨hlt, h⟩ | ⟨rfl, rfl⟩
    · rw [hρ _ hlt]; exact inv.new _ _ h
    · rw [more_new]; exact .inl inv.hist.size
  · intro g ds hg
    exact (inv.glob g ds hg).mono (Nat.le_refl _) (fun _ h => absurd h (by omega)) (fun _ h => h) hS

/-- The blocks that a state knows of: what may be read, and its chunks. -/
def Known (ρ : Nat → Bk) (S : Nat → Prop) (hp : List (Option Ch)) (b : Nat) : Prop := S b ∨ ∃ c ch, hp[c]? = some (some ch) ∧ b = (ρ c).b

/-! ### what lies at a pointer -/
def cellsAt (s : St) (p : V) (n : Nat) (k : List V → Prop) : Prop := match p with
  | .loc c off => match nth s.hp c with
    | some (some (.cells _ vs)) => dropK off vs fun r => takeK n r k
    | _ => False
  | .pp ds => takeK n ds fun q => mapK V.d q k
  | .re c i kk sz => match nth s.hp c with
    | some (some (.rows _ nn _ sz' f)) => bif Nat.beq sz' sz then i < nn ∧ dropK kk (f i) fun r => takeK n r k else False
    | _ => False
  | _ => False

theorem cellsAt.out {p : V} {x : Value} {n : Nat} {k : List V → Prop} (inv : Inv E nt w0 S0 W0 m ρ0 ρ S w s a) (h : cellsAt s p n k) (hr : RV ρ s.hp.length S w p x) :
    ∃ b off vs xs, x = .pointer (some ⟨b, off, none⟩) ∧ vs.length = n ∧ RVs ρ s.hp.length S w vs xs ∧ (∀ j v, xs[j]? = some v → w.cell? ⟨b, off + j, none⟩ = some v) ∧
      (∀ x ∈ xs, cellVal x = true) ∧ Known ρ S s.hp b ∧ k vs := by
  unfold cellsAt at h
  split at h
  · rename_i c off
    rw [nth_eq] at h
    split at h
    · rename_i ty vs hc
      obtain ⟨h1, h2⟩ := h.out
      obtain ⟨h3, h4⟩ := h2.out
      cases hr with | loc hcN =>
      obtain ⟨xs, g1, g2, g3⟩ := inv.heap.at_ c _ hc
      refine ⟨(ρ c).b, off, (vs.drop off).take n, (xs.drop off).take n, rfl, by simp at *; omega, ?_, ?_, ?_, .inr ⟨c, _, hc, rfl⟩, h4⟩
      · refine ⟨by simp [g2.1], fun j u v hu hv => ?_⟩
        rw [List.getElem?_take] at hu hv
        split at hu
        · rename_i hj
          rw [if_pos hj] at hv
          rw [List.getElem?_drop] at hu hv
          exact g2.2 _ _ _ hu hv
        · simp at hu
      · intro j v hv
        rw [List.getElem?_take] at hv
        split at hv
        · rw [List.getElem?_drop] at hv
          simp only [World.cell?, g1]
          simpa using hv
        · simp at hv
      · intro x hx
        exact g3 x (List.mem_of_mem_drop (List.mem_of_mem_take hx))
    · exact h.elim
  · rename_i ds
    obtain ⟨h1, h2⟩ := h.out
    have h3 := h2.out
    cases hr with | pp g hb hc hd =>
    refine ⟨_, _, _, (List.range n).map g, rfl, by simp; omega, ⟨by simp; omega, ?_⟩, ?_, ?_, .inl hb, h3⟩
    · intro j u v hu hv
      simp only [List.getElem?_map, List.getElem?_take] at hu
      rw [List.getElem?_map] at hv
      split at hu
      · rename_i hj
        rw [List.getElem?_range hj] at hv
        simp at hv; subst hv
        cases hq : ds[j]? with
        | none => rw [hq] at hu; simp at hu
        | some d => rw [hq] at hu; simp at hu; subst hu; exact .d (hd j d hq)
      · simp at hu
    · intro j v hv
      rw [List.getElem?_map] at hv
      by_cases hj : j < n
      · rw [List.getElem?_range hj] at hv
        simp at hv; subst hv
        exact hc j (by omega)
      · rw [List.getElem?_eq_none (by simp; omega)] at hv; simp at hv
    · intro x hx
      obtain ⟨j, hj, rfl⟩ := List.mem_map.1 hx
      have hj' : j < ds.length := by have := List.mem_range.1 hj; omega
      exact (hd j _ (List.getElem?_eq_getElem hj')).cellVal
  · rename_i c i kk sz
    rw [nth_eq] at h
    split at h
    · rename_i ty nn cap sz' f hc
      cases hz : Nat.beq sz' sz with
      | false => rw [hz] at h; exact h.elim
      | true =>
        rw [hz] at h
        have hz' : sz' = sz := Nat.eq_of_beq_eq_true hz
        subst hz'
        obtain ⟨hi, h⟩ := (show i < nn ∧ _ from h)
        obtain ⟨h1, h2⟩ := h.out
        obtain ⟨h3, h5⟩ := h2.out
        cases hr with | re hcN =>
        obtain ⟨xs, g1, g2, g3⟩ := inv.heap.at_ c _ hc
        obtain ⟨g4, g5⟩ := g3 i hi
        have hlen : (f i).length = sz' := g4
        have hget : ∀ j d, (f i)[kk + j]? = some d → ∃ b, xs[i * sz' + kk + j]? = some b ∧ RV ρ s.hp.length S w d b := fun j d hd => by
          obtain ⟨b, h, h'⟩ := g5 _ _ hd; exact ⟨b, by rw [← h]; congr 1; omega, h'⟩
        have hbound : i * sz' + kk + n ≤ xs.length := by
          have h6 : i * sz' + sz' ≤ nn * sz' := by rw [← Nat.succ_mul]; exact Nat.mul_le_mul_right _ hi
          have h7 : nn * sz' ≤ (ρ c).cap * sz' := Nat.mul_le_mul_right _ g2.1
          have g2 := g2.2.2.1; simp at h3; omega
        refine ⟨(ρ c).b, i * sz' + kk, _, (xs.drop (i * sz' + kk)).take n, rfl, by simp at *; omega, ⟨by simp at *; omega, ?_⟩, ?_, ?_, .inr ⟨c, _, hc, rfl⟩, h5⟩
        · intro j u v hu hv
          rw [List.getElem?_take] at hu hv
          split at hu
          · rename_i hj
            rw [if_pos hj, List.getElem?_drop] at hv
            rw [List.getElem?_drop] at hu
            obtain ⟨b, hb, hd⟩ := hget j u hu
            rw [hb] at hv; simp at hv; subst hv
            exact hd
          · simp at hu
        · intro j v hv
          rw [List.getElem?_take] at hv
          split at hv
          · rw [List.getElem?_drop] at hv
            simp only [World.cell?, g1]
            simpa using hv
          · simp at hv
        · intro x hx
          exact g2.2.2.2.2 x (List.mem_of_mem_drop (List.mem_of_mem_take hx))
    · exact h.elim
  · exact h.elim

end
end Go.E
