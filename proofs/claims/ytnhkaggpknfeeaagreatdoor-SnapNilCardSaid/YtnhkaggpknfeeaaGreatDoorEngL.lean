/-
  THE ENGINE, PART L: what says less (vLe): a slice of which it isn't said whether it is nil; rows that are told by another function.
-/
import Derived.Test.YtnhkaggpknfeeaaGreatDoorEngA
namespace Go.E
open Go

def dLe (d d' : D) : Prop := ∀ S w x, RD S w d x → RD S w d' x
def vLe (u v : V) : Prop := ∀ ρ N S w x, RV ρ N S w u x → RV ρ N S w v x
def chLe (c c' : Ch) : Prop := ∀ ρ N S w k, HC ρ N S w k c → HC ρ N S w k c'

theorem dLe.refl (d : D) : dLe d d := fun _ _ _ h => h
theorem vLe.refl (v : V) : vLe v v := fun _ _ _ _ _ h => h
theorem chLe.refl (c : Ch) : chLe c c := fun _ _ _ _ _ h => h
theorem vLe.of {u v : V} (h : u = v) : vLe u v := h ▸ vLe.refl u
theorem chLe.of {u v : Ch} (h : u = v) : chLe u v := h ▸ chLe.refl u
theorem vLe.trans {u v x : V} (h : vLe u v) (k : vLe v x) : vLe u x := fun _ _ _ _ _ r => k _ _ _ _ _ (h _ _ _ _ _ r)

def dLeL : List D → List D → Prop
  | [], [] => True
  | d :: ds, e :: es => dLe d e ∧ dLeL ds es
  | _, _ => False
theorem dLeL.out : ∀ {ds es : List D}, dLeL ds es → ds.length = es.length ∧ ∀ (k : Nat) e, es[k]? = some e → ∃ d, ds[k]? = some d ∧ dLe d e
  | [], [], _ => ⟨rfl, fun k e h => by simp at h⟩
  | d :: ds, e :: es, h => by
    obtain ⟨h1, h2⟩ := dLeL.out h.2
    refine ⟨by simp [h1], fun k e' hk => ?_⟩
    cases k with
    | zero => simp at hk; subst hk; exact ⟨d, rfl, h.1⟩
    | succ k => obtain ⟨d', h3, h4⟩ := h2 k e' (by simpa using hk); exact ⟨d', by simpa using h3, h4⟩
  | [], _ :: _, h => h.elim
  | _ :: _, [], h => h.elim
theorem dLeL.refl : ∀ (ds : List D), dLeL ds ds
  | [] => trivial
  | d :: ds => ⟨dLe.refl d, dLeL.refl ds⟩
theorem dLeL.of {ds es : List D} (h : ds = es) : dLeL ds es := h ▸ dLeL.refl ds

/-- A slice: as many elements, each of which says less; whether it is nil may be left out. -/
theorem dLe.sl {q q' : Option Bool} {n sz : Nat} {f g : Nat → List D} (hq : q' = none ∨ q' = q) (h : ∀ i, i < n → dLeL (f i) (g i)) : dLe (.sl q n sz f) (.sl q' n sz g) := by
  intro S w x hr
  cases hr with
  | nil hn => exact .nil (by rcases hq with rfl | rfl <;> simp_all)
  | e hn => exact .e (by rcases hq with rfl | rfl <;> simp_all)
  | sl k hk hb hn hl hc hd =>
    refine .sl k (by rcases hq with rfl | rfl <;> simp_all) hb hn (fun i hi => by rw [← (h i hi).out.1]; exact hl i hi) hc (fun i j e hi hj => ?_)
    obtain ⟨d, h1, h2⟩ := (h i hi).out.2 j e hj
    exact h2 _ _ _ (hd i j d hi h1)
theorem vLe.d {d e : D} (h : dLe d e) : vLe (.d d) (.d e) := by
  intro ρ N S w x hr
  cases hr with | d hr => exact .d (h _ _ _ hr)
theorem vLe.sl {q q' : Option Bool} {n sz : Nat} {f g : Nat → List D} (hq : q' = none ∨ q' = q) (h : ∀ i, i < n → f i = g i) : vLe (.d (.sl q n sz f)) (.d (.sl q' n sz g)) :=
  .d (.sl hq fun i hi => .of (h i hi))

def vLeL : List V → List V → Prop
  | [], [] => True
  | u :: us, v :: vs => vLe u v ∧ vLeL us vs
  | _, _ => False
theorem vLeL.out {ρ N S w} : ∀ {us vs : List V} {xs : List Value}, vLeL us vs → RVs ρ N S w us xs → RVs ρ N S w vs xs
  | [], [], _, _, h => h
  | u :: us, v :: vs, xs, hl, h => by
    obtain ⟨y, ys, rfl, h1, h2⟩ := h.cons_eq
    exact .cons (hl.1 _ _ _ _ _ h1) (vLeL.out hl.2 h2)
  | [], _ :: _, _, h, _ => h.elim
  | _ :: _, [], _, h, _ => h.elim
theorem vLeL.len : ∀ {us vs : List V}, vLeL us vs → us.length = vs.length
  | [], [], _ => rfl
  | _ :: _, _ :: _, h => by simp [vLeL.len h.2]
  | [], _ :: _, h => h.elim
  | _ :: _, [], h => h.elim
theorem vLeL.get : ∀ {us vs : List V}, vLeL us vs → ∀ (k : Nat) e, vs[k]? = some e → ∃ d, us[k]? = some d ∧ vLe d e
  | [], [], _, k, e, h => by simp at h
  | u :: us, v :: vs, h, k, e, hk => by
    cases k with
    | zero => simp at hk; subst hk; exact ⟨u, rfl, h.1⟩
    | succ k => obtain ⟨d', h3, h4⟩ := vLeL.get h.2 k e (by simpa using hk); exact ⟨d', by simpa using h3, h4⟩
  | [], _ :: _, h, _, _, _ => h.elim
  | _ :: _, [], h, _, _, _ => h.elim
theorem vLeL.refl : ∀ (us : List V), vLeL us us
  | [] => trivial
  | u :: us => ⟨vLe.refl u, vLeL.refl us⟩
theorem vLeL.of {us vs : List V} (h : us = vs) : vLeL us vs := h ▸ vLeL.refl us
theorem vLe.agg {us vs : List V} (h : vLeL us vs) : vLe (.agg us) (.agg vs) := by
  intro ρ N S w x hr
  cases hr with | agg h1 h2 => have := vLeL.out h ⟨h1, h2⟩; exact .agg this.1 this.2
theorem vLe.tup {us vs : List V} (h : vLeL us vs) : vLe (.tup us) (.tup vs) := by
  intro ρ N S w x hr
  cases hr with | tup h1 h2 => have := vLeL.out h ⟨h1, h2⟩; exact .tup this.1 this.2
theorem chLe.cells {ty : TypeId} {us vs : List V} (h : vLeL us vs) : chLe (.cells ty us) (.cells ty vs) := by
  rintro ρ N S w k ⟨xs, h1, h2, h3⟩
  exact ⟨xs, h1, vLeL.out h h2, h3⟩
theorem chLe.rows {ty : TypeId} {n sz : Nat} {q : Option Nat} {f g : Nat → List V} (h : ∀ i, i < n → vLeL (f i) (g i)) : chLe (.rows ty n q sz f) (.rows ty n q sz g) := by
  rintro ρ N S w k ⟨xs, h1, h2, h3⟩
  refine ⟨xs, h1, h2, fun i hi => ⟨by rw [← (vLeL.len (h i hi))]; exact (h3 i hi).1, fun j e hj => ?_⟩⟩
  obtain ⟨d, g1, g2⟩ := vLeL.get (h i hi) j e hj
  obtain ⟨b, g3, g4⟩ := (h3 i hi).2 j d g1
  exact ⟨b, g3, g2 _ _ _ _ _ g4⟩
theorem chLe.rows_eq {ty : TypeId} {n sz : Nat} {q : Option Nat} {f g : Nat → List V} (h : ∀ i, i < n → f i = g i) : chLe (.rows ty n q sz f) (.rows ty n q sz g) := .rows fun i hi => .of (h i hi)

end Go.E
