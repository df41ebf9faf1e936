/-
  THE ENGINE, PART B: copy.
-/
import Derived.Test.YtnhkaggpknfeeaaGreatDoorEngL
import Derived.Laws.CopyRow
namespace Go.E
open Go

section
variable {E : Env} {nt : Nat} {w0 : World} {S0 W0 : Nat → Prop} {m : Nat} {ρ0 ρ : Nat → Bk} {S : Nat → Prop} {w w' : World} {s : St} {a : Act}

def minB (i j : Nat) : Nat := bif Nat.ble i j then i else j
theorem minB_eq (i j : Nat) : minB i j = min i j := by
  unfold minB
  cases h : Nat.ble i j with
  | true => have := Nat.le_of_ble_eq_true h; simp only [cond_true]; omega
  | false =>
    have : ¬ i ≤ j := fun h' => by rw [Nat.ble_eq_true_of_le h'] at h; cases h
    simp only [cond_false]; omega

/-- Rows of which k, from off on, are others. -/
def overF (off k : Nat) (g f : Nat → List V) : Nat → List V := fun i => bif Nat.ble off i && Nat.blt i (off + k) then g (i - off) else f i

def copyVC (E : Env) (ts : List TypeId) (dst src : V) (s : St) (k : V → St → Prop) : Prop := match ts with
  | [t, t'] => match E.T t with
    | some ti => match ti.desc with
      | .slice e => match E.T e with
        | some te => bif Nat.beq te.size 0 then False else srcTK E t t' s src te.size fun n g => match dst with
          | .z _ => k (.int .i64 (0 : Nat)) s
          | .d (.sl _ 0 _ _) => k (.int .i64 (0 : Nat)) s
          | .ms c off nd _ sz => match nth s.hp c with
            | some (some (.rows ty nn q sz' f)) => bif Nat.beq sz te.size && Nat.beq sz' te.size then off + nd ≤ nn ∧
                setK c [some (.rows ty nn q sz' (overF off (minB nd n) g f))] s.hp fun hp1 => k (.int .i64 (minB nd n : Nat)) { s with hp := hp1 } else False
            | _ => False
          | _ => False
        | none => False
      | _ => False
    | none => False
  | _ => False

theorem copyVC.out {ts : List TypeId} {dst src : V} {x y : Value} {k : V → St → Prop} (ty' : TypeId) (hE : E.Ok) (inv : Inv E nt w0 S0 W0 m ρ0 ρ S w s a) (h : copyVC E ts dst src s k)
    (hx : RV ρ s.hp.length S w dst x) (hy : RV ρ s.hp.length S w src y) :
    ∃ z w' s' v', (Builtin.copy_ ts.toArray ty' #[x, y]).run E.P w = .ok z w' ∧ Inv E nt w0 S0 W0 m ρ0 ρ S w' s' a ∧ RV ρ s'.hp.length S w' v' z ∧ k v' s' := by
  unfold copyVC at h
  split at h
  · rename_i t t'
    split at h
    · rename_i ti hti
      have hu := und_eq hE hti
      split at h
      · rename_i e hd
        rw [hd] at hu
        split at h
        · rename_i te hte
          have hT := hE.T _ _ hte
          obtain ⟨i, z, i1, i2, i3, i4, i5, i6, i7⟩ := hT.inf
          cases hz0 : Nat.beq te.size 0 with
          | true => rw [hz0] at h; exact h.elim
          | false =>
          rw [hz0] at h
          have hsz : 0 < te.size := Nat.pos_of_ne_zero (Nat.ne_of_beq_eq_false hz0)
          simp only [cond_false] at h
          obtain ⟨n, g, cs, hh, hrows, hsrc⟩ := srcTK.out (ty' := ty') hE inv h hsz hy hu hT i1 i2 i4
          have runN : ∀ (nd cap : Nat), (Builtin.copy_ #[t, t'] ty' #[.slice none nd cap, y]).run E.P w = .ok (goInt (min n nd : Nat)) w := by
            intro nd cap
            have hf := hsrc.first (min n nd) (Nat.min_le_left _ _)
            have hm : Nat.min n nd = min n nd := rfl
            simp [Builtin.copy_, run_underlying hu, sizeOf, typeInfo, i1, hsrc.len, hm, hf]
          have runS : ∀ (ad : Addr) (nd cap : Nat) (w' : World), (storeCells ad (cs.take (min n nd * i.size))).run E.P w = .ok () w' → (Builtin.copy_ #[t, t'] ty' #[.slice (some ad) nd cap, y]).run E.P w = .ok (goInt (min n nd : Nat)) w' := by
            intro ad nd cap w' hst
            have hf := hsrc.first (min n nd) (Nat.min_le_left _ _)
            have hm : Nat.min n nd = min n nd := rfl
            simp [Builtin.copy_, run_underlying hu, sizeOf, typeInfo, i1, hsrc.len, hm, hf, hst]
          have none_ : ∀ (q : Option Addr), x = .slice q 0 0 ∨ (∃ ad c, x = .slice (some ad) 0 c) → k (.int .i64 (0 : Nat)) s → ∃ z w' s' v', (Builtin.copy_ [t, t'].toArray ty' #[x, y]).run E.P w = .ok z w' ∧ Inv E nt w0 S0 W0 m ρ0 ρ S w' s' a ∧ RV ρ s'.hp.length S w' v' z ∧ k v' s' := by
            intro q hq hk
            refine ⟨goInt (0 : Nat), w, s, _, ?_, inv, .d (.v rfl), hk⟩
            rcases hq with rfl | ⟨ad, c, rfl⟩
            · cases q with
              | none => have := runN 0 0; simpa using this
              | some ad => have := runS ad 0 0 w (by simp [storeCells]); simpa using this
            · have := runS ad 0 c w (by simp [storeCells]); simpa using this
          split at hh
          · cases hx with
            | z0 _ => exact none_ none (.inl rfl) hh
            | z1 _ => exact none_ none (.inr ⟨_, _, rfl⟩) hh
          · cases hx with | d hx' =>
            cases hx' with
            | sl g hq _ _ _ _ _ => exact none_ none (.inr ⟨_, _, rfl⟩) hh
            | e hq => exact none_ none (.inr ⟨_, _, rfl⟩) hh
            | nil _ => exact none_ none (.inl rfl) hh
          · rename_i c off nd qd sz
            rw [nth_eq] at hh
            split at hh
            · rename_i ty nn q sz' f hc
              cases hq : (Nat.beq sz te.size && Nat.beq sz' te.size) with
              | false => rw [hq] at hh; exact hh.elim
              | true =>
              rw [hq] at hh
              obtain ⟨q1, q2⟩ := Bool.and_eq_true_iff.1 hq
              have e1 := Nat.eq_of_beq_eq_true q1
              have e2 := Nat.eq_of_beq_eq_true q2
              subst e1; subst e2
              obtain ⟨b0, hh⟩ := (show off + nd ≤ nn ∧ _ from hh)
              rw [minB_eq] at hh
              obtain ⟨r1, r2⟩ := setK.out hh
              rw [setL_single _ _ _ (by simp at r1; omega)] at r2
              cases hx with | ms hcl hncap hm =>
              obtain ⟨xs, g1, g2, g3⟩ := inv.heap.at_ c _ hc
              have hmin : min n nd = min nd n := Nat.min_comm _ _
              generalize hM : min nd n = M at *
              have hMn : M ≤ n := by omega
              have hMd : M ≤ nd := by omega
              have hcsl : (cs.take (M * te.size)).length = M * te.size := by
                rw [List.length_take, hrows.len]
                exact Nat.min_eq_left (Nat.mul_le_mul_right _ hMn)
              have hfit : off * te.size + M * te.size ≤ xs.length := by
                rw [← Nat.add_mul, g2.2.2.1]
                exact Nat.mul_le_mul_right _ (by have := g2.1; omega)
              have hst := run_storeCells_at E.P (ρ c).b (off * te.size) ty (cs.take (M * te.size)) 0 xs.toArray w g1 (by rw [hcsl]; simpa using hfit) (fun u hu => hrows.ok u (List.mem_of_mem_take hu))
              have hlist : ((xs.toArray.toList.take (off * te.size + 0) ++ cs.take (M * te.size) ++ xs.toArray.toList.drop (off * te.size + 0 + (cs.take (M * te.size)).length))) = setL (off * te.size) (cs.take (M * te.size)) xs := by simp [setL]
              rw [hlist] at hst
              have hrun := runS ⟨(ρ c).b, off * te.size, none⟩ nd (capOf qd ((ρ c).cap - off)) _ (by rw [hmin, i2]; exact hst)
              rw [hmin] at hrun
              have hS : Same S w (w.setRow (ρ c).b (setL (off * te.size) (cs.take (M * te.size)) xs).toArray) := fun b hb => setRow_other _ _ _ _ fun e => inv.heap.out _ _ hc (e ▸ hb)
              refine ⟨_, _, _, _, hrun, inv.turn hc (fun b hb => setRow_other _ _ _ _ hb) (by simp [World.setRow]) rfl rfl rfl ?_, .d (.v rfl), r2⟩
              have hfit' : off * te.size + (cs.take (M * te.size)).length ≤ xs.length := by rw [hcsl]; exact hfit
              refine ⟨setL (off * te.size) (cs.take (M * te.size)) xs, setRow_heap _ _ _ _ _ _ g1, ⟨g2.1, g2.2.1, by rw [setL_length hfit']; exact g2.2.2.1, g2.2.2.2.1, setL_all (fun u hu => hrows.ok u (List.mem_of_mem_take hu)) g2.2.2.2.2⟩, fun r hr => ?_⟩
              unfold overF
              by_cases hin : off ≤ r ∧ r < off + M
              · rw [Nat.ble_eq_true_of_le hin.1, blt_t hin.2]
                simp only [Bool.and_self, cond_true]
                obtain ⟨l1, l2⟩ := hrows.el (r - off) (by omega)
                refine ⟨l1, fun j d hj => ?_⟩
                obtain ⟨b, b1, b2⟩ := l2 j d hj
                refine ⟨b, ?_, b2.mono (Nat.le_refl _) (fun _ _ => rfl) (fun _ h => h) hS⟩
                have hj' : j < te.size := by rw [← l1]; exact (List.getElem?_eq_some_iff.1 hj).1
                have hlt : (r - off) * te.size + j < M * te.size := by
                  have : (r - off) * te.size + te.size ≤ M * te.size := by rw [← Nat.succ_mul]; exact Nat.mul_le_mul_right _ (by omega)
                  omega
                have er : r * te.size + j = off * te.size + ((r - off) * te.size + j) := by rw [← Nat.add_assoc, ← Nat.add_mul]; congr 2; omega
                rw [setL_get hfit', if_pos (by rw [hcsl]; omega), er, Nat.add_sub_cancel_left, List.getElem?_take, if_pos hlt]
                exact b1
              · have hout : (Nat.ble off r && Nat.blt r (off + M)) = false := by
                  by_cases h1 : off ≤ r
                  · rw [Nat.ble_eq_true_of_le h1, blt_f (by omega)]; rfl
                  · cases h2 : Nat.ble off r with
                    | true => exact absurd (Nat.le_of_ble_eq_true h2) h1
                    | false => rfl
                rw [hout]
                simp only [cond_false]
                obtain ⟨l1, l2⟩ := g3 r hr
                refine ⟨l1, fun j d hj => ?_⟩
                obtain ⟨b, b1, b2⟩ := l2 j d hj
                refine ⟨b, ?_, b2.mono (Nat.le_refl _) (fun _ _ => rfl) (fun _ h => h) hS⟩
                have hj' : j < te.size := by rw [← l1]; exact (List.getElem?_eq_some_iff.1 hj).1
                rw [setL_get hfit', if_neg ?_]
                · exact b1
                · rw [hcsl]
                  by_cases hlo : r < off
                  · have hlt : r * te.size + j < off * te.size := by
                      have : r * te.size + te.size ≤ off * te.size := by rw [← Nat.succ_mul]; exact Nat.mul_le_mul_right _ hlo
                      omega
                    omega
                  · have hge : off * te.size + M * te.size ≤ r * te.size + j := by
                      have : (off + M) * te.size ≤ r * te.size := Nat.mul_le_mul_right _ (by omega)
                      rw [Nat.add_mul] at this; omega
                    omega
            · exact hh.elim
          · exact hh.elim
        · exact h.elim
      · exact h.elim
    · exact h.elim
  · exact h.elim

end
end Go.E
