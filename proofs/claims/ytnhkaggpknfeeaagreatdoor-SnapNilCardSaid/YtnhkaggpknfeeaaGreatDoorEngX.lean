/-
  THE ENGINE, PART X: structs and slices built of parts, arrays by an index, maps of plain keys, bytes as a string.
-/
import Derived.Test.YtnhkaggpknfeeaaGreatDoorEngW
import Derived.Laws.Tables
import Derived.Great.BuildSlice
import Derived.MapKept
import Derived.Laws.BytesString
import Derived.Laws.BytesArg
namespace Go.E
open Go
noncomputable section

section
variable {E : Env} {nt : Nat} {w0 : World} {S0 W0 : Nat → Prop} {m : Nat} {ρ0 ρ : Nat → Bk} {S : Nat → Prop} {w w' : World} {s : St} {a : Act}

/-! ### parts -/
def noTupB : V → Bool
  | .tup _ => false
  | _ => true
theorem noTupB.out {v : V} (h : noTupB v = true) : ∀ vs, v ≠ .tup vs := by intro vs e; subst e; cases h

def fillO (place : Nat → Option (Nat × Nat)) : List V → List (Nat × V) → Option (List V)
  | cells, [] => some cells
  | cells, (i, v) :: rest => match place i with
    | some (off, size) => bif noTupB v && Nat.beq (cellsOf v).length size then (match setE off (cellsOf v) cells with
      | some r => fillO place r rest
      | none => none) else none
    | none => none

/-- Parts and their values. -/
def RPs (ρ : Nat → Bk) (N : Nat) (S : Nat → Prop) (w : World) : List (Nat × V) → List (Nat × Value) → Prop
  | [], xs => xs = []
  | (i, v) :: r, xs => ∃ x ys, xs = (i, x) :: ys ∧ RV ρ N S w v x ∧ RPs ρ N S w r ys

theorem foldl_setL (off : Nat) (vs cs : List Value) (h : off + vs.length ≤ cs.length) :
    (vs.toArray.zipIdx.foldl (fun cs (x : Value × Nat) => cs.setIfInBounds (off + x.2) x.1) cs.toArray) = (setL off vs cs).toArray := by
  rw [← Array.foldl_toList, Array.toList_zipIdx]
  apply Array.ext_getElem?
  intro k
  rw [(Great.foldl_set off vs 0 cs.toArray).2 k]
  simp only [Nat.add_zero, List.getElem?_toArray, List.size_toArray]
  rw [setL_get h]
  by_cases hk : off ≤ k ∧ k < off + vs.length
  · rw [if_pos ⟨hk.1, hk.2, by omega⟩, if_pos hk]
  · rw [if_neg (by omega), if_neg hk]

theorem setE_len {α : Type} {n : Nat} {vs l r : List α} (h : setE n vs l = some r) : n + vs.length ≤ l.length ∧ r = setL n vs l := by
  have := setE.of (k := fun q => q = r) h rfl
  obtain ⟨a, b⟩ := setK.out this
  exact ⟨a, b.symm⟩

theorem fillO.out {N : Nat} {place placeR : Nat → Option (Nat × Nat)} (hp : ∀ i p, place i = some p → placeR i = some p) : ∀ {parts : List (Nat × V)} {xs : List (Nat × Value)} {cells us : List V} {cs : List Value},
    fillO place cells parts = some us → RVs ρ N S w cells cs → RPs ρ N S w parts xs → ∃ r : List Value, Instr.fill placeR cs.toArray xs = some r.toArray ∧ RVs ρ N S w us r
  | [], xs, cells, us, cs, h, hc, hx => by
    cases hx
    simp only [fillO, Option.some.injEq] at h
    subst h
    exact ⟨cs, rfl, hc⟩
  | (i, v) :: rest, xs, cells, us, cs, h, hc, hx => by
    obtain ⟨x, ys, rfl, h1, h2⟩ := hx
    simp only [fillO] at h
    split at h
    · rename_i off size hpl
      cases hb : (noTupB v && Nat.beq (cellsOf v).length size) with
      | false => rw [hb] at h; cases h
      | true =>
        rw [hb] at h
        obtain ⟨g1, g2⟩ := Bool.and_eq_true_iff.1 hb
        have g2 := Nat.eq_of_beq_eq_true g2
        simp only [cond_true] at h
        split at h
        · rename_i r hr
          obtain ⟨k1, rfl⟩ := setE_len hr
          have hcv := cellsOf.out h1 (noTupB.out g1)
          have hlx : x.cells.toList.length = size := by rw [← g2]; exact hcv.1.symm
          have hlc : cs.length = cells.length := hc.1.symm
          obtain ⟨q, e1, e2⟩ := fillO.out hp h (RVs.setL hc hcv k1) h2
          refine ⟨q, ?_, e2⟩
          rw [← e1]
          have hfold := foldl_setL off x.cells.toList cs (by rw [hlc, hlx, ← g2]; exact k1)
          rw [Array.toArray_toList] at hfold
          have hsz : x.cells.size = size := by rw [← hlx]; simp
          show (match placeR i with
            | none => none
            | some (off, size) => if (x.cells.size ≠ size || off + x.cells.size > cs.toArray.size) = true then none else Instr.fill placeR (x.cells.zipIdx.foldl (fun cs (c, j) => cs.setIfInBounds (off + j) c) cs.toArray) ys) = _
          rw [hp _ _ hpl]
          simp only
          rw [if_neg (by
            rw [hsz]
            simp only [ne_eq, not_true_eq_false, decide_false, Bool.false_or, List.size_toArray, gt_iff_lt, decide_eq_true_eq]
            omega)]
          exact congrArg (fun q => Instr.fill placeR q ys) hfold
        · cases h
    · cases h

theorem fillO.len : ∀ {parts : List (Nat × V)} {cells us : List V} {pl : Nat → Option (Nat × Nat)}, fillO pl cells parts = some us → us.length = cells.length
  | [], cells, us, pl, h => by simp only [fillO, Option.some.injEq] at h; rw [h]
  | (i, v) :: rest, cells, us, pl, h => by
    simp only [fillO] at h
    split at h
    · rename_i off size hpl
      cases hb : (noTupB v && Nat.beq (cellsOf v).length size) with
      | false => rw [hb] at h; cases h
      | true =>
        rw [hb] at h
        simp only [cond_true] at h
        split at h
        · rename_i q hq
          obtain ⟨k1, rfl⟩ := setE_len hq
          rw [fillO.len h, setL_length k1]
        · cases h
    · cases h

/-! ### a struct, an array of parts -/
def placeF (E : Env) (fs : List Field) (i : Nat) : Option (Nat × Nat) := match nth fs i with
  | some fd => match E.T fd.type with
    | some tf => some (fd.offset, tf.size)
    | none => none
  | none => none
def allT (E : Env) : List Field → Bool
  | [] => true
  | f :: fs => (match E.T f.type with
    | some _ => true
    | none => false) && allT E fs
def buildO (E : Env) (t : TypeId) (parts : List (Nat × V)) : Option V := match E.T t with
  | some ti => match ti.desc with
    | .struct fs => bif allT E fs.toList then (match fillO (placeF E fs.toList) (mapE ofVal ti.zero) parts with
      | some us => some (.agg us)
      | none => none) else none
    | .array _ e => match E.T e with
      | some te => match fillO (fun i => some (i * te.size, te.size)) (mapE ofVal ti.zero) parts with
        | some us => some (.agg us)
        | none => none
      | none => none
    | _ => none
  | none => none

theorem places_ok (hE : E.Ok) : ∀ {fs : List Field}, allT E fs = true → ∃ places, fs.mapM (fun f => (E.P.info? f.type).map fun i => (f.offset, i.size)) = some places ∧ ∀ i p, placeF E fs i = some p → places[i]? = some p
  | [], _ => ⟨[], rfl, fun i p h => by simp [placeF, nth] at h⟩
  | f :: fs, h => by
    simp only [allT, Bool.and_eq_true] at h
    obtain ⟨h1, h2⟩ := h
    obtain ⟨ps, g1, g2⟩ := places_ok hE h2
    split at h1
    · rename_i tf htf
      obtain ⟨i, z, i1, i2, _⟩ := (hE.T _ _ htf).inf
      refine ⟨(f.offset, tf.size) :: ps, by simp [List.mapM_cons, i1, g1, i2], fun j p hj => ?_⟩
      cases j with
      | zero =>
        simp only [placeF, nth, htf, Option.some.injEq] at hj
        simpa using hj
      | succ j =>
        simp only [placeF, nth] at hj
        simpa using g2 j p hj
    · cases h1

theorem buildO.out {N : Nat} {t : TypeId} {parts : List (Nat × V)} {xs : List (Nat × Value)} {v : V} (hE : E.Ok) (h : buildO E t parts = some v) (hx : RPs ρ N S w parts xs) :
    ∃ y, (∀ w', (Instr.build t xs.toArray).run E.P w' = .ok y w') ∧ RV ρ N S w v y := by
  unfold buildO at h
  split at h
  · rename_i ti hti
    have hu := und_eq hE hti
    obtain ⟨i, z, i1, i2, i3, i4, i5, i6, i7⟩ := (hE.T _ _ hti).inf
    have hz : z.cells = ti.zero.toArray := by rw [← i5]
    split at h
    · rename_i fs hd
      rw [hd] at hu
      cases ha : allT E fs.toList with
      | false => rw [ha] at h; cases h
      | true =>
        rw [ha] at h
        simp only [cond_true] at h
        split at h
        · rename_i us hus
          have := some_eq h; subst this
          obtain ⟨places, p1, p2⟩ := places_ok hE ha
          rw [mapE_eq] at hus
          obtain ⟨r, r1, r2⟩ := fillO.out (placeR := (places.toArray[·]?)) (fun i p hp => by simpa using p2 i p hp) hus (RVs.ofVal i6) hx
          refine ⟨.agg r.toArray, fun w' => run_build w' t xs.toArray r.toArray ?_, .agg r2.1 r2.2⟩
          unfold Program.built
          simp only [i1, hu, i4, p1, hz]
          exact r1
        · cases h
    · rename_i n e hd
      rw [hd] at hu
      split at h
      · rename_i te hte
        split at h
        · rename_i us hus
          have := some_eq h; subst this
          obtain ⟨ie, ze, j1, j2, _⟩ := (hE.T _ _ hte).inf
          rw [mapE_eq] at hus
          obtain ⟨r, r1, r2⟩ := fillO.out (placeR := fun i => some (i * te.size, te.size)) (fun i p hp => hp) hus (RVs.ofVal i6) hx
          refine ⟨.agg r.toArray, fun w' => run_build w' t xs.toArray r.toArray ?_, .agg r2.1 r2.2⟩
          unfold Program.built
          simp only [i1, hu, i4, j1, hz, j2]
          exact r1
        · cases h
      · cases h
    · cases h
  · cases h

/-! ### a slice of parts -/
def repE {α : Type} (l : List α) : Nat → List α
  | 0 => []
  | n + 1 => appE l (repE l n)
/-- Rows of so many cells each. -/
def rowE (sz : Nat) : Nat → List V → Option (List (List V))
  | 0, _ => some []
  | n + 1, l => match takeE sz l with
    | some r => match dropE sz l with
      | some q => match rowE sz n q with
        | some rs => some (r :: rs)
        | none => none
      | none => none
    | none => none
def nthD {α : Type} (d : α) : List α → Nat → α
  | [], _ => d
  | x :: l, i => bif Nat.beq i 0 then x else nthD d l (i - 1)
theorem nthD_eq {α : Type} (d : α) : ∀ (l : List α) (i : Nat), nthD d l i = l.getD i d
  | [], i => by simp [nthD]
  | x :: l, i => by
    cases i with
    | zero => simp [nthD]
    | succ i => simp [nthD, nthD_eq d l i, beq_f (show i + 1 ≠ 0 by omega)]

theorem takeE_eq {α : Type} {n : Nat} {l r : List α} (h : takeE n l = some r) : n ≤ l.length ∧ r = l.take n := by
  have := takeE.of (k := fun q => q = r) h rfl
  obtain ⟨a, b⟩ := takeK.out this
  exact ⟨a, b.symm⟩
theorem dropE_eq {α : Type} {n : Nat} {l r : List α} (h : dropE n l = some r) : n ≤ l.length ∧ r = l.drop n := by
  have := dropE.of (k := fun q => q = r) h rfl
  obtain ⟨a, b⟩ := dropK.out this
  exact ⟨a, b.symm⟩

theorem rowE.out {sz : Nat} : ∀ {n : Nat} {l : List V} {rs : List (List V)}, rowE sz n l = some rs → rs.length = n ∧ n * sz ≤ l.length ∧ ∀ i r, rs[i]? = some r → r = (l.drop (i * sz)).take sz ∧ r.length = sz
  | 0, l, rs, h => by
    simp only [rowE, Option.some.injEq] at h; subst h
    exact ⟨rfl, by omega, fun i r h => by simp at h⟩
  | n + 1, l, rs, h => by
    simp only [rowE] at h
    split at h
    · rename_i r hr
      split at h
      · rename_i q hq
        split at h
        · rename_i rs' hrs
          have := some_eq h; subst this
          obtain ⟨a1, rfl⟩ := takeE_eq hr
          obtain ⟨a2, rfl⟩ := dropE_eq hq
          obtain ⟨b1, b2, b3⟩ := rowE.out hrs
          simp only [List.length_drop] at b2
          refine ⟨by simp [b1], by rw [Nat.succ_mul]; omega, fun i r hi => ?_⟩
          cases i with
          | zero => simp at hi; subst hi; exact ⟨by simp, by simp; omega⟩
          | succ i =>
            obtain ⟨c1, c2⟩ := b3 i r (by simpa using hi)
            refine ⟨?_, c2⟩
            rw [c1, List.drop_drop]
            congr 2; rw [Nat.succ_mul]; omega
        · cases h
      · cases h
    · cases h

def buildSliceO (E : Env) (t : TypeId) (len : Nat) (parts : List (Nat × V)) : Option (TypeId × Nat × List (List V)) := match E.T t with
  | some ti => match ti.desc with
    | .slice e => match E.T e with
      | some te => bif Nat.beq (len * te.size) 0 || Nat.blt 16777216 (len * te.size) then none else (match fillO (fun i => some (i * te.size, te.size)) (repE (mapE ofVal te.zero) len) parts with
        | some us => bif flatV us then (match rowE te.size len us with
          | some rs => some (e, te.size, rs)
          | none => none) else none
        | none => none)
      | none => none
    | _ => none
  | none => none

theorem rep_rv {N : Nat} {us : List V} {xs : List Value} (h : RVs ρ N S w us xs) : ∀ n, RVs ρ N S w (repE us n) ((List.replicate n xs).flatten)
  | 0 => .nil
  | n + 1 => by
    rw [List.replicate_succ, List.flatten_cons]
    unfold repE
    rw [appE_eq]
    exact h.app (rep_rv h n)

theorem rep_cells (z : List Value) (h : 0 < z.length) (n : Nat) : ((Array.range (n * z.length)).map (z.toArray[· % z.toArray.size]!)).toList = (List.replicate n z).flatten := by
  induction n with
  | zero => simp
  | succ n ih =>
    apply List.ext_getElem?
    intro k
    have key : ∀ (n k : Nat), ((List.replicate n z).flatten)[k]? = if k < n * z.length then z[k % z.length]? else none := by
      intro n
      induction n with
      | zero => intro k; simp
      | succ n ih' =>
        intro k
        rw [List.replicate_succ, List.flatten_cons]
        by_cases hk : k < z.length
        · rw [List.getElem?_append_left hk, Nat.mod_eq_of_lt hk, if_pos (by rw [Nat.succ_mul]; omega)]
        · rw [List.getElem?_append_right (by omega), ih']
          by_cases h2 : k - z.length < n * z.length
          · rw [if_pos h2, if_pos (by rw [Nat.succ_mul]; omega), Nat.mod_eq_sub_mod (by omega : k ≥ z.length)]
          · rw [if_neg h2, if_neg (by rw [Nat.succ_mul]; omega)]
    rw [key]
    by_cases hk : k < (n + 1) * z.length
    · rw [if_pos hk, Array.getElem?_toList]
      have hm : k % z.length < z.length := Nat.mod_lt _ h
      simp [hk, hm]
    · rw [if_neg hk, List.getElem?_eq_none (by simp; omega)]

theorem buildSliceO.out {N : Nat} {t e : TypeId} {len sz : Nat} {parts : List (Nat × V)} {xs : List (Nat × Value)} {rs : List (List V)} (hE : E.Ok) (h : buildSliceO E t len parts = some (e, sz, rs)) (hx : RPs ρ N S w parts xs) :
    ∃ cs : List Value, (∀ w', (Instr.buildSlice t len xs.toArray).run E.P w' = .ok (.slice (some ⟨w'.heap.size, 0, none⟩) len len) (w'.alloc (.cells cs.toArray e))) ∧ 0 < sz ∧ len ≤ maxLen ∧ rs.length = len ∧ RowsAt ρ N S w len sz (fun i => nthD [] rs i) cs := by
  unfold buildSliceO at h
  split at h
  · rename_i ti hti
    have hu := und_eq hE hti
    split at h
    · rename_i e' hd
      rw [hd] at hu
      split at h
      · rename_i te hte
        cases hb : (Nat.beq (len * te.size) 0 || Nat.blt 16777216 (len * te.size)) with
        | true => rw [hb] at h; cases h
        | false =>
          rw [hb] at h
          obtain ⟨b1, b2⟩ := Bool.or_eq_false_iff.1 hb
          have b1 := Nat.ne_of_beq_eq_false b1
          have b2 : ¬ 16777216 < len * te.size := fun hh => by rw [blt_t hh] at b2; cases b2
          simp only [cond_false] at h
          split at h
          · rename_i us hus
            cases hfl : flatV us with
            | false => rw [hfl] at h; cases h
            | true =>
            rw [hfl] at h
            simp only [cond_true] at h
            split at h
            · rename_i rs' hrs
              have := some_eq h
              injection this with e1 e2
              injection e2 with e2 e3
              subst e1; subst e2; subst e3
              obtain ⟨ie, ze, j1, j2, j3, j4, j5, j6, j7⟩ := (hE.T _ _ hte).inf
              have hsz : 0 < te.size := Nat.pos_of_ne_zero fun e => b1 (by rw [e]; simp)
              have hz : ze.cells = te.zero.toArray := by rw [← j5]
              rw [mapE_eq] at hus
              obtain ⟨r, r1, r2⟩ := fillO.out (placeR := fun i => some (i * te.size, te.size)) (fun i p hp => hp) hus (rep_rv (RVs.ofVal j6) len) hx
              obtain ⟨c1, c2, c3⟩ := rowE.out hrs
              have hlen : r.length = us.length := r2.1.symm
              have hul : us.length = len * te.size := by
                rw [fillO.len hus]
                have : ∀ n, (repE (te.zero.map ofVal) n).length = n * te.size := by
                  intro n
                  induction n with
                  | zero => simp [repE]
                  | succ n ih => simp [repE, appE_eq, ih, j7, Nat.succ_mul]; omega
                exact this len
              refine ⟨r, fun w' => ?_, hsz, ?_, c1, ⟨by rw [hlen, hul], fun i hi => ?_, flatV.out hfl r2⟩⟩
              · refine run_buildSlice w' t e' len xs.toArray r.toArray ie ze hu j1 j4 (by rw [j2]; omega) (by rw [j2]; exact b1) ?_
                rw [j2, ← r1, hz]
                congr 1
                apply Array.ext'
                rw [← rep_cells te.zero (by omega) len, j7]
              · unfold maxLen
                have : len ≤ len * te.size := Nat.le_mul_of_pos_right _ hsz
                omega
              · have hil : i < rs'.length := by omega
                obtain ⟨d1, d2⟩ := c3 i rs'[i] (List.getElem?_eq_getElem hil)
                have hn : nthD [] rs' i = rs'[i] := by rw [nthD_eq, List.getD_eq_getElem?_getD, List.getElem?_eq_getElem hil]; rfl
                refine ⟨by rw [hn]; exact d2, fun k d hk => ?_⟩
                rw [hn, d1, List.getElem?_take] at hk
                split at hk
                · rw [List.getElem?_drop] at hk
                  have hlt : i * te.size + k < r.length := by rw [hlen]; exact (List.getElem?_eq_some_iff.1 hk).1
                  exact ⟨r[i * te.size + k], List.getElem?_eq_getElem hlt, r2.2 _ _ _ hk (List.getElem?_eq_getElem hlt)⟩
                · simp at hk
            · cases h
          · cases h
      · cases h
    · cases h
  · cases h

/-! ### an array by an index -/
def indexArrO (E : Env) (t : TypeId) (v i : V) : Option V := match E.T t with
  | some ti => match ti.desc, v with
    | .array l e, .agg vs => match E.T e with
      | some te => match intE i with
        | some j => bif decide (0 ≤ j) && decide (j < l) then (match dropE (j.toNat * te.size) vs with
          | some r => match takeE te.size r with
            | some q => loadE' te q
            | none => none
          | none => none) else none
        | none => none
      | none => none
    | _, _ => none
  | none => none

theorem sub_rv {N : Nat} {vs : List V} {xs : List Value} (h : RVs ρ N S w vs xs) (o n : Nat) : RVs ρ N S w ((vs.drop o).take n) ((xs.drop o).take n) := by
  refine ⟨by simp [h.1], fun j u v hu hv' => ?_⟩
  rw [List.getElem?_take] at hu hv'
  split at hu
  · rename_i hj
    rw [if_pos hj] at hv'
    rw [List.getElem?_drop] at hu hv'
    exact h.2 _ _ _ hu hv'
  · simp at hu

/-- A part of cells. -/
theorem part_out {N : Nat} {t : TypeId} {ti : TI} (hT : TOk E.P t ti) {vs : List V} {xs : List Value} (hv : RVs ρ N S w vs xs) (o : Nat) {u : V} (h : loadE' ti ((vs.drop o).take ti.size) = some u) (hl : o + ti.size ≤ vs.length) :
    ∃ y, (∀ w', (part t xs.toArray o).run E.P w' = .ok y w') ∧ RV ρ N S w u y := by
  have hsub := sub_rv hv o ti.size
  have hagg := fun w => run_isAgg hT.und w
  have hsz := fun w => hT.size w
  unfold loadE' at h
  cases hq : isAggD ti.desc with
  | true =>
    rw [hq] at h
    have := some_eq h; subst this
    refine ⟨.agg ((xs.drop o).take ti.size).toArray, fun w' => ?_, .agg hsub.1 hsub.2⟩
    simp [part, hagg, hq, hsz]
  | false =>
    rw [hq] at h
    simp only at h
    generalize hus : (vs.drop o).take ti.size = us at h hsub
    match us, h, hsub with
    | [u'], h, hsub =>
      have := some_eq h; subst this
      obtain ⟨y, ys, e, g1, g2⟩ := hsub.cons_eq
      refine ⟨y, fun w' => ?_, g1⟩
      have : xs[o]? = some y := by
        have := congrArg (·[0]?) e
        simp only [List.getElem?_take, List.getElem?_drop, List.getElem?_cons_zero] at this
        split at this
        · simpa using this
        · simp at this
      simp [part, hagg, hq, this]

theorem indexArrO.out {N : Nat} {t : TypeId} {v i u : V} {x y : Value} (hE : E.Ok) (h : indexArrO E t v i = some u) (hv : RV ρ N S w v x) (hi : RV ρ N S w i y) :
    ∃ z, (∀ w', (Instr.index t x y).run E.P w' = .ok z w') ∧ RV ρ N S w u z := by
  unfold indexArrO at h
  split at h
  · rename_i ti hti
    have hu := und_eq hE hti
    split at h
    · rename_i l e vs hd
      rw [hd] at hu
      split at h
      · rename_i te hte
        split at h
        · rename_i j hj
          obtain ⟨q, n, rfl, hn⟩ := vint.out (intE.of (k := fun n => n = j) hj rfl) hi
          subst hn
          cases hb : (decide (0 ≤ n) && decide (n < l)) with
          | false => rw [hb] at h; cases h
          | true =>
            rw [hb] at h
            have hb' : 0 ≤ n ∧ n < l := by simpa using hb
            simp only [cond_true] at h
            split at h
            · rename_i r hr
              split at h
              · rename_i p hp
                obtain ⟨k1, rfl⟩ := dropE_eq hr
                obtain ⟨k2, rfl⟩ := takeE_eq hp
                cases hv with | agg hl hvv =>
                obtain ⟨z, z1, z2⟩ := part_out (hE.T _ _ hte) ⟨hl, hvv⟩ _ h (by simp at k2; omega)
                refine ⟨z, fun w' => ?_, z2⟩
                have hsz := fun w => (hE.T _ _ hte).size w
                simp [Instr.index, asIntOf, run_underlying hu, hb', hsz, z1]
              · cases h
            · cases h
        · cases h
      · cases h
    · cases h
  · cases h

end
end
end Go.E
