/-
  THE ENGINE, PART Y: the evaluator: operations that leave the world alone (silE); what of them looks at the world (ldE).
-/
import Derived.Test.YtnhkaggpknfeeaaGreatDoorEngX
namespace Go.E
open Go
noncomputable section

section
variable {E : Env} {nt : Nat} {w0 : World} {S0 W0 : Nat → Prop} {m : Nat} {ρ0 ρ : Nat → Bk} {S : Nat → Prop} {w w' : World} {s : St} {a : Act} {es es' : ES}

/-! ### maps of plain keys -/
def isKeyB : TypeDesc → Value → Bool
  | .bool, .bool _ => true
  | .int k, .int k' _ => ikEq k' k
  | .string, .string _ => true
  | _, _ => false
theorem ikEq_eq {a b : IntKind} (h : ikEq a b = true) : a = b := by cases a <;> cases b <;> first | rfl | (exact absurd h (by decide))
theorem isKeyB.out {d : TypeDesc} {k : Value} (h : isKeyB d k = true) : Go.MapKept.IsKey d k := by
  unfold isKeyB at h
  split at h
  · trivial
  · exact ikEq_eq h
  · trivial
  · cases h
def keyEqB : Value → Value → Option Bool
  | .bool a, .bool b => some (a == b)
  | .int k a, .int k' b => bif ikEq k k' then some (decide (a = b)) else none
  | .string a, .string b => some (beqL a.data.toList b.data.toList)
  | _, _ => none
/-- Where a key lies. -/
def findO (k : Value) : List (Value × V) → Nat → Option (Option (Nat × V))
  | [], _ => some none
  | (q, v) :: r, i => match keyEqB k q with
    | some true => some (some (i, v))
    | some false => findO k r (i + 1)
    | none => none

theorem sameNow_of {d : TypeDesc} {k q : Value} {b : Bool} (hd : isKeyB d k = true) (h : keyEqB k q = some b) : Instr.sameNow d k q = some b := by
  unfold keyEqB at h
  split at h
  · cases d <;> simp_all [isKeyB, Instr.sameNow]
  · rename_i k1 a1 k2 b2
    cases hq : ikEq k1 k2 with
    | false => rw [hq] at h; cases h
    | true =>
      rw [hq] at h
      have e := ikEq_eq hq
      subst e
      cases d <;> simp_all [isKeyB, Instr.sameNow]
      rw [← h]
      by_cases e : a1 = b2 <;> simp [e]
  · cases d <;> simp_all [isKeyB, Instr.sameNow, beqL_eq, beq_list]
  · cases h

theorem findO.out {N : Nat} {d : TypeDesc} {k : Value} (hd : isKeyB d k = true) : ∀ {es : List (Value × V)} {ms : List MapEntry} {i : Nat} {r : Option (Nat × V)}, findO k es i = some r → ms.map (·.key) = es.map (·.1) → RVs ρ N S w (es.map (·.2)) (ms.map (·.val)) →
    ∃ r', Instr.findNow d k ms i = some r' ∧ (match r, r' with
      | none, none => True
      | some (j, v), some (j', x) => j = j' ∧ RV ρ N S w v x ∧ i ≤ j ∧ ∃ q, es[j - i]? = some q ∧ keyEqB k q.1 = some true
      | _, _ => False)
  | [], ms, i, r, h, hk, hv => by
    have : ms = [] := by simpa using hk
    subst this
    simp only [findO, Option.some.injEq] at h
    subst h
    exact ⟨none, rfl, trivial⟩
  | (q, v) :: es, [], i, r, h, hk, hv => by simp at hk
  | (q, v) :: es, e :: ms, i, r, h, hk, hv => by
    simp only [List.map_cons, List.cons.injEq] at hk hv
    obtain ⟨hk1, hk2⟩ := hk
    simp only [findO] at h
    split at h
    · rename_i hkq
      simp only [Option.some.injEq] at h; subst h
      refine ⟨some (i, e.val), ?_, rfl, hv.head, Nat.le_refl _, (q, v), by simp, hkq⟩
      simp only [Instr.findNow, hk1, sameNow_of hd hkq]
    · rename_i hkq
      obtain ⟨r', h1, h2⟩ := findO.out hd h hk2 hv.tail
      refine ⟨r', ?_, ?_⟩
      · simp only [Instr.findNow, hk1, sameNow_of hd hkq]; exact h1
      · split at h2
        · trivial
        · obtain ⟨g1, g2, g3, p, g4, g5⟩ := h2
          rename_i j v' j' x
          refine ⟨g1, g2, by omega, p, ?_, g5⟩
          rw [show j - i = (j - (i + 1)) + 1 by omega]
          simpa using g4
        · exact h2.elim
    · cases h

theorem tup_rv2 {N : Nat} {u v : V} {x y : Value} (h : RV ρ N S w u x) (g : RV ρ N S w v y) : RV ρ N S w (.tup [u, v]) (.tuple #[x, y]) := by
  have := RVs.cons h (RVs.cons g .nil)
  exact .tup (xs := [x, y]) this.1 this.2

def zeroV (ti : TI) : Option V := loadE' ti (mapE ofVal ti.zero)
theorem zeroV.out {N : Nat} {t : TypeId} {ti : TI} {v : V} (hT : TOk E.P t ti) (h : zeroV ti = some v) : ∃ z, (∀ w', (zeroValue t).run E.P w' = .ok z w') ∧ RV ρ N S w v z := by
  obtain ⟨i, j1, j2⟩ := hT.zer
  obtain ⟨i', z, i1, i2, i3, i4, i5, i6, i7⟩ := hT.inf
  refine ⟨zeroOf ti.desc ti.zero, fun w' => by simp [zeroValue, typeInfo, j1, j2], ?_⟩
  unfold zeroV loadE' at h
  rw [mapE_eq] at h
  unfold zeroOf
  have hz := RVs.ofVal (ρ := ρ) (S := S) (w := w) (N := N) i6
  cases hq : isAggD ti.desc with
  | true =>
    rw [hq] at h
    have := some_eq h; subst this
    exact .agg hz.1 hz.2
  | false =>
    rw [hq] at h
    simp only at h
    split at h
    · rename_i u hu
      have := some_eq h; subst this
      rw [hu] at hz
      obtain ⟨y, ys, e, g1, g2⟩ := hz.cons_eq
      rw [e]; exact g1
    · cases h

def lookupE (E : Env) (t : TypeId) (h : HS) (x k : V) (ok : Bool) : Option V := match E.T t with
  | some ti => match ti.desc with
    | .map kt et => match E.T kt, E.T et with
      | some tk, some te => match x, k with
        | .mp c, .d (.v key) => match getC h c with
          | some (.mp es) => bif isKeyB tk.desc key then (match findO key es 0 with
            | some (some (_, v)) => match ok with
              | true => some (.tup [v, .d (.v (.bool true))])
              | false => some v
            | some none => match zeroV te with
              | some z => match ok with
                | true => some (.tup [z, .d (.v (.bool false))])
                | false => some z
              | none => none
            | none => none) else none
          | _ => none
        | _, _ => none
      | _, _ => none
    | _ => none
  | none => none

theorem lookupE.out {t : TypeId} {x k v : V} {ok : Bool} {y z : Value} (hE : E.Ok) (inv : Inv E nt w0 S0 W0 m ρ0 ρ S w (es.st nt) a) (h : lookupE E t es.h x k ok = some v)
    (hx : RV ρ (es.st nt).hp.length S w x y) (hk : RV ρ (es.st nt).hp.length S w k z) :
    ∃ r, (∀ w', Same (Known ρ S (es.st nt).hp) w w' → (Instr.lookup t y z ok).run E.P w' = .ok r w') ∧ RV ρ (es.st nt).hp.length S w v r := by
  unfold lookupE at h
  split at h
  · rename_i ti hti
    have hu := und_eq hE hti
    split at h
    · rename_i kt et hd
      rw [hd] at hu
      split at h
      · rename_i tk te htk hte
        have huk := und_eq hE htk
        split at h
        · rename_i c key
          split at h
          · rename_i ents hc
            have hc' : (es.st nt).hp[c]? = some (some (.mp ents)) := by rw [← nth_eq]; exact getC.of hc
            cases hb : isKeyB tk.desc key with
            | false => rw [hb] at h; cases h
            | true =>
            rw [hb] at h
            simp only [cond_true] at h
            have hkey := RV.scalar hk
            subst hkey
            cases hx with | mp hcN =>
            obtain ⟨ms, clk, g1, g2, g3⟩ := inv.heap.at_ c _ hc'
            have g1' : ∀ w', Same (Known ρ S (es.st nt).hp) w w' → w'.heap[(ρ c).b]? = some (.map ms clk) := fun w' hw => by rw [hw _ (.inr ⟨c, _, hc', rfl⟩)]; exact g1
            have hgo : ∀ w', Same (Known ρ S (es.st nt).hp) w w' → (getObj (ρ c).b).run E.P w' = .ok (.map ms clk) w' := fun w' hw => Go.MapKept.run_getObj_map (g1' w' hw)
            have hck : ∀ e w', (Instr.checkKey e 10000 kt key).run E.P w' = .ok () w' := fun e w' => Go.MapKept.run_checkKey huk (isKeyB.out hb) e 9999
            split at h
            · rename_i j u hf
              obtain ⟨r', f1, f2⟩ := findO.out hb hf g2 g3
              match r', f1, f2 with
              | none, _, f2 => exact f2.elim
              | some (j2, x2), f1, f2 =>
                have hfk : ∀ w', (Instr.findKey kt key ms.toList).run E.P w' = .ok (some (j2, x2)) w' := fun w' => Go.MapKept.run_findKey huk f1
                cases ok with
                | true =>
                  have := some_eq h; subst this
                  refine ⟨.tuple #[x2, .bool true], fun w' hw => ?_, ?_⟩
                  · simp [Instr.lookup, run_underlying hu, hgo w' hw, hck, hfk]
                  · have := tup_rv2 (f2.2.1) (RV.d (ρ := ρ) (N := (es.st nt).hp.length) (RD.v (S := S) (w := w) (x := .bool true) rfl)); exact this
                | false =>
                  have := some_eq h; subst this
                  exact ⟨x2, fun w' hw => by simp [Instr.lookup, run_underlying hu, hgo w' hw, hck, hfk], f2.2.1⟩
            · rename_i hf
              obtain ⟨r', f1, f2⟩ := findO.out hb hf g2 g3
              match r', f1, f2 with
              | some p, _, f2 => exact f2.elim
              | none, f1, _ =>
                have hfk : ∀ w', (Instr.findKey kt key ms.toList).run E.P w' = .ok none w' := fun w' => Go.MapKept.run_findKey huk f1
                split at h
                · rename_i zv hzv
                  obtain ⟨zx, z1, z2⟩ := zeroV.out (ρ := ρ) (S := S) (w := w) (N := (es.st nt).hp.length) (hE.T _ _ hte) hzv
                  cases ok with
                  | true =>
                    have := some_eq h; subst this
                    refine ⟨.tuple #[zx, .bool false], fun w' hw => ?_, ?_⟩
                    · simp [Instr.lookup, run_underlying hu, hgo w' hw, hck, hfk, z1]
                    · exact tup_rv2 z2 (RV.d (RD.v rfl))
                  | false =>
                    have := some_eq h; subst this
                    exact ⟨zx, fun w' hw => by simp [Instr.lookup, run_underlying hu, hgo w' hw, hck, hfk, z1], z2⟩
                · cases h
            · cases h
          · cases h
        · cases h
      · cases h
    · cases h
  · cases h

/-! ### bytes as a string -/
def bytesO : List V → Option (List UInt8)
  | [] => some []
  | .d (.v (.int .u8 (.ofNat n))) :: l => match bytesO l with
    | some r => some (UInt8.ofNat n :: r)
    | none => none
  | _ :: _ => none
theorem bytesO.out {N : Nat} : ∀ {vs : List V} {xs : List Value} {bs : List UInt8}, bytesO vs = some bs → RVs ρ N S w vs xs → ∃ ns : List Int, xs = ns.map (Value.int .u8) ∧ ns.map (fun n => UInt8.ofNat n.toNat) = bs
  | [], xs, bs, h, hv => by
    simp only [bytesO, Option.some.injEq] at h; subst h
    exact ⟨[], by rw [hv.nil_eq]; rfl, rfl⟩
  | v :: vs, xs, bs, h, hv => by
    obtain ⟨y, ys, rfl, h1, h2⟩ := hv.cons_eq
    unfold bytesO at h
    split at h
    · rename_i e; cases e
    · rename_i n l e
      injection e with e1 e2
      subst e1; subst e2
      split at h
      · rename_i r hr
        have := some_eq h; subst this
        obtain ⟨ns, g1, g2⟩ := bytesO.out hr h2
        have := RV.scalar h1
        subst this
        exact ⟨Int.ofNat n :: ns, by rw [g1]; rfl, by simp [g2]⟩
      · cases h
    · cases h

/-- The rows of a slice, side by side (rows of one cell). -/
def cellsE (h : HS) (c off : Nat) : Nat → Option (List V)
  | 0 => some []
  | n + 1 => match cellsE h c (off + 1) n with
    | some r => match getC h c with
      | some (.rows _ nn _ 1 f) => bif Nat.blt off nn then (match f off with
        | [x] => some (x :: r)
        | _ => none) else none
      | _ => none
    | none => none

def toStrE (E : Env) (src dst : TypeId) (h : HS) (v : V) : Option V := match E.T src, E.T dst with
  | some ts, some td => match ts.desc, td.desc with
    | .slice e, .string => match E.T e with
      | some te => match te.desc, v with
        | .int .u8, .ms c off n _ 1 => match cellsE h c off n with
          | some vs => match bytesO vs with
            | some bs => rS bs
            | none => none
          | none => none
        | .int .u8, .d (.sl (some true) 0 _ _) => rS []
        | _, _ => none
      | none => none
    | _, _ => none
  | _, _ => none

theorem cellsE.out {c : Nat} (inv : Inv E nt w0 S0 W0 m ρ0 ρ S w (es.st nt) a) : ∀ {n off : Nat} {vs : List V}, cellsE es.h c off n = some vs → n ≠ 0 → ∃ xs, vs.length = n ∧ RVs ρ (es.st nt).hp.length S w vs xs ∧ Known ρ S (es.st nt).hp (ρ c).b ∧ ∀ j v, xs[j]? = some v → w.cell? ⟨(ρ c).b, off + j, none⟩ = some v
  | 0, off, vs, h, h0 => absurd rfl h0
  | n + 1, off, vs, h, _ => by
    simp only [cellsE] at h
    split at h
    · rename_i r hr
      split at h
      · rename_i ty nn q f hc
        have hc' : (es.st nt).hp[c]? = some (some (.rows ty nn q 1 f)) := by rw [← nth_eq]; exact getC.of hc
        cases hb : Nat.blt off nn with
        | false => rw [hb] at h; cases h
        | true =>
          rw [hb] at h
          simp only [cond_true] at h
          split at h
          · rename_i x hx
            have := some_eq h; subst this
            have hlt := blt_o hb
            obtain ⟨ys, g1, g2, g3⟩ := inv.heap.at_ c _ hc'
            obtain ⟨k1, k2⟩ := g3 off hlt
            obtain ⟨y, y1, y2⟩ := k2 0 x (by rw [hx]; rfl)
            have hcell : w.cell? ⟨(ρ c).b, off, none⟩ = some y := by
              simp only [World.cell?, g1]
              simpa using y1
            by_cases hn : n = 0
            · subst hn
              simp only [cellsE, Option.some.injEq] at hr
              subst hr
              refine ⟨[y], rfl, .cons y2 .nil, .inr ⟨c, _, hc', rfl⟩, fun j v hj => ?_⟩
              cases j with
              | zero => simp at hj; subst hj; simpa using hcell
              | succ j => simp at hj
            · obtain ⟨xs, a1, a2, a3, a4⟩ := cellsE.out inv hr hn
              refine ⟨y :: xs, by simp [a1], .cons y2 a2, a3, fun j v hj => ?_⟩
              cases j with
              | zero => simp at hj; subst hj; simpa using hcell
              | succ j =>
                have := a4 j v (by simpa using hj)
                rwa [show off + (j + 1) = off + 1 + j by omega]
          · cases h
      · cases h
    · cases h

theorem toStrE.out {src dst : TypeId} {v u : V} {y : Value} (hE : E.Ok) (inv : Inv E nt w0 S0 W0 m ρ0 ρ S w (es.st nt) a) (h : toStrE E src dst es.h v = some u) (hv : RV ρ (es.st nt).hp.length S w v y) :
    ∃ r, (∀ w', Same (Known ρ S (es.st nt).hp) w w' → (convert src dst y).run E.P w' = .ok r w') ∧ RV ρ (es.st nt).hp.length S w u r := by
  unfold toStrE at h
  split at h
  · rename_i ts td hts htd
    have hus := und_eq hE hts
    have hud := und_eq hE htd
    split at h
    · rename_i e hs hd
      rw [hs] at hus
      rw [hd] at hud
      split at h
      · rename_i te hte
        have hue := und_eq hE hte
        split at h
        · rename_i c off n q hte8
          rw [hte8] at hue
          split at h
          · rename_i vs hvs
            split at h
            · rename_i bs hbs
              rw [rS_eq] at h
              have := some_eq h; subst this
              cases hv with | ms hcl hn hm =>
              by_cases h0 : n = 0
              · subst h0
                simp only [cellsE, Option.some.injEq] at hvs
                subst hvs
                simp only [bytesO, Option.some.injEq] at hbs
                subst hbs
                refine ⟨_, fun w' hw => ?_, .d (.v rfl)⟩
                rw [run_convert_bytes_string w' src dst e _ _ _ hus hue hud, run_bytesToString w' _ 0 _ [] (by simp [loadCells, loadCellsFrom])]
                rfl
              · obtain ⟨xs, a1, a2, a3, a4⟩ := cellsE.out inv hvs h0
                obtain ⟨ns, b1, b2⟩ := bytesO.out hbs a2
                have hlen : ns.length = n := by rw [← a1, a2.1, b1]; simp
                refine ⟨_, fun w' hw => ?_, .d (.v rfl)⟩
                rw [run_convert_bytes_string w' src dst e _ _ _ hus hue hud]
                have hl := run_loadCells_list (P := E.P) w' ⟨(ρ c).b, off * 1, none⟩ xs (fun j v hj => by
                  have := a4 j v hj
                  rw [Addr.add_at, Nat.mul_one, hw.cell a3]; exact this)
                have hxl : xs.length = n := by rw [← a2.1, a1]
                rw [hxl] at hl
                rw [run_bytesToString w' _ n _ ns (by rw [hl, b1]), foldl_push_bytes]
                congr 2
                rw [← b2]
                exact ByteArray.ext (by simp [ofL])
            · cases h
          · cases h
        · rename_i hte8
          rw [hte8] at hue
          rw [rS_eq] at h
          have := some_eq h; subst this
          cases hv with | d hv =>
          cases hv with
          | nil _ =>
            refine ⟨_, fun w' hw => ?_, .d (.v rfl)⟩
            rw [run_convert_bytes_string w' src dst e _ _ _ hus hue hud]
            simp [Conv.bytesToString, ofL]
            rfl
          | e hq => exact absurd rfl hq
          | sl g hq _ _ _ _ _ => exact absurd rfl hq
        · cases h
      · cases h
    · cases h
  · cases h

/-! ### all of them -/
def partsE (E : Env) (nt : Nat) (es : ES) : List (Nat × Operand) → Option (List (Nat × V))
  | [] => some []
  | (i, x) :: l => match evE E nt es x with
    | some v => match partsE E nt es l with
      | some r => some ((i, v) :: r)
      | none => none
    | none => none
theorem partsE.out : ∀ {l : List (Nat × Operand)} {vs : List (Nat × V)}, partsE E nt es l = some vs → Inv E nt w0 S0 W0 m ρ0 ρ S w (es.st nt) a → RPs ρ (es.st nt).hp.length S w vs (l.map fun p => (p.1, a.eval p.2))
  | [], vs, h, inv => by simp only [partsE, Option.some.injEq] at h; subst h; rfl
  | (i, x) :: l, vs, h, inv => by
    simp only [partsE] at h
    split at h
    · rename_i v hv
      split at h
      · rename_i r hr
        have := some_eq h; subst this
        obtain ⟨u, hu, e⟩ := evK.out (evE.of (k := fun u => u = v) hv rfl) inv
        subst e
        exact ⟨_, _, rfl, hu, partsE.out hr inv⟩
      · cases h
    · cases h

/-- Which operations leave the world alone. -/
def silB : Op → Bool
  | .build _ _ => true
  | .lookup _ _ _ _ => true
  | o => isSil o

/-- Does it look at the world? -/
def ldE (E : Env) : Op → Bool
  | .load _ _ => true
  | .lookup _ _ _ _ => true
  | .convert src dst _ => match E.T src, E.T dst with
    | some ts, some td => match ts.desc, td.desc with
      | .slice _, .string => true
      | _, _ => false
    | _, _ => true
  | _ => false

def boolE (v : V) : Option Bool := match v with
  | .d (.v (.bool b)) => some b
  | _ => none
theorem boolE.of {v : V} {b : Bool} {k : Bool → Prop} (h : boolE v = some b) (hk : k b) : vbool v k := by
  unfold boolE at h
  unfold vbool
  split at h
  · have := some_eq h; subst this; exact hk
  · cases h

def sil_pick (E : Env) (nt : Nat) (es : ES) (c x y : Operand) : Option V := match evE E nt es c with
    | some v => match boolE v with
      | some true => evE E nt es x
      | some false => evE E nt es y
      | none => none
    | none => none
def sil_binOp (E : Env) (nt : Nat) (es : ES) (op : BinOp) (t : TypeId) (x y : Operand) : Option V := match evE E nt es x with
    | some u => match evE E nt es y with
      | some v => binE E op t u v
      | none => none
    | none => none
def sil_unOp (E : Env) (nt : Nat) (es : ES) (op : UnOp) (x : Operand) : Option V := match evE E nt es x with
    | some u => unE op u
    | none => none
def sil_load (E : Env) (nt : Nat) (es : ES) (t : TypeId) (x : Operand) : Option V := match evE E nt es x with
    | some p => match loadE E t es p with
      | some v => bif noTupB v then some v else none
      | none => none
    | none => none
def sil_fieldAddr (E : Env) (nt : Nat) (es : ES) (t : TypeId) (x : Operand) (f : Nat) : Option V := match evE E nt es x with
    | some p => fieldE E t p f
    | none => none
def sil_indexAddr (E : Env) (nt : Nat) (es : ES) (t : TypeId) (x i : Operand) : Option V := match evE E nt es x with
    | some p => match evE E nt es i with
      | some j => indexE E t p j
      | none => none
    | none => none
def sil_index (E : Env) (nt : Nat) (es : ES) (t : TypeId) (x i : Operand) : Option V := match evE E nt es x with
    | some p => match evE E nt es i with
      | some j => match p with
        | .agg _ => indexArrO E t p j
        | _ => strIndexE E t p j
      | none => none
    | none => none
def sil_field (E : Env) (nt : Nat) (es : ES) (t : TypeId) (x : Operand) (i : Nat) : Option V := match evE E nt es x with
    | some v => partE E t v i
    | none => none
def sil_slice (E : Env) (nt : Nat) (es : ES) (t : TypeId) (x : Operand) (lo hi mx : Option Operand) : Option V := match evE E nt es x with
    | some p => sliceE E nt t es p lo hi mx
    | none => none
def sil_extract (E : Env) (nt : Nat) (es : ES) (x : Operand) (i : Nat) : Option V := match evE E nt es x with
    | some v => extractE v i
    | none => none
def sil_nilCheck (E : Env) (nt : Nat) (es : ES) (x : Operand) : Option V := match evE E nt es x with
    | some v => nilCheckE v
    | none => none
def sil_convert (E : Env) (nt : Nat) (es : ES) (src dst : TypeId) (x : Operand) : Option V := match evE E nt es x with
    | some v => match E.T src, E.T dst with
      | some ts, some td => match ts.desc, td.desc with
        | .slice _, .string => toStrE E src dst es.h v
        | _, _ => convE E src dst v
      | _, _ => none
    | none => none
def sil_makeFunc (E : Env) (nt : Nat) (es : ES) (f : FuncId) (first caps : Array Operand) : Option V := match evsE E nt es first.toList with
    | some us => match evsE E nt es caps.toList with
      | some vs => some (.fn f us vs)
      | none => none
    | none => none
def sil_build (E : Env) (nt : Nat) (es : ES) (t : TypeId) (parts : Array (Nat × Operand)) : Option V := match partsE E nt es parts.toList with
    | some ps => buildO E t ps
    | none => none
def sil_lookup (E : Env) (nt : Nat) (es : ES) (t : TypeId) (x k : Operand) (ok : Bool) : Option V := match evE E nt es x with
    | some u => match evE E nt es k with
      | some v => lookupE E t es.h u v ok
      | none => none
    | none => none
def sil_call (E : Env) (nt : Nat) (es : ES) (c : Call) : Option V := match c.callee with
    | .builtin b => match b, c.argTypes.toList, c.args.toList with
      | .len, [t], [x] => match evE E nt es x with
        | some v => lenE E t v
        | none => none
      | b, _, [x, y] => match evE E nt es x with
        | some u => match evE E nt es y with
          | some v => minmaxE b u v
          | none => none
        | none => none
      | _, _, _ => none
    | _ => none

def silE (E : Env) (nt : Nat) (es : ES) (o : Op) : Option V := match o with
  | .move x => evE E nt es x
  | .assign x => evE E nt es x
  | .pick c x y => sil_pick E nt es c x y
  | .binOp op t x y _ => sil_binOp E nt es op t x y
  | .unOp op _ x => sil_unOp E nt es op x
  | .load t x => sil_load E nt es t x
  | .fieldAddr t x f => sil_fieldAddr E nt es t x f
  | .indexAddr t x i => sil_indexAddr E nt es t x i
  | .index t x i => sil_index E nt es t x i
  | .field t x i => sil_field E nt es t x i
  | .slice t x lo hi mx => sil_slice E nt es t x lo hi mx
  | .extract x i => sil_extract E nt es x i
  | .nilCheck x => sil_nilCheck E nt es x
  | .convert src dst x => sil_convert E nt es src dst x
  | .makeFunc (.func f) first caps => sil_makeFunc E nt es f first caps
  | .build t parts => sil_build E nt es t parts
  | .lookup t x k ok => sil_lookup E nt es t x k ok
  | .call c => sil_call E nt es c
  | _ => none

/-- What an operation that leaves the world alone comes to. -/
def SilOkE (E : Env) (ρ : Nat → Bk) (S : Nat → Prop) (s : St) (a : Act) (w : World) (o : Oper) (v : V) : Prop :=
  ∃ x, (∀ w', (ldE E o.op = true → Same (Known ρ S s.hp) w w') → (execOp a.eval o).run E.P w' = .ok (.value x) w') ∧ RV ρ s.hp.length S w v x

theorem SilOkE.of {o : Oper} {v : V} (hE : E.Ok) (inv : Inv E nt w0 S0 W0 m ρ0 ρ S w s a) (hl : isLd o.op = true → ldE E o.op = true) (h : silVC E o.op s fun u => u = v) : SilOkE E ρ S s a w o v := by
  obtain ⟨x, u, h1, h2, h3⟩ := silVC.out hE inv h
  subst h3
  exact ⟨x, fun w' hw => h1 w' fun hi => hw (hl hi), h2⟩

theorem silE.out {o : Oper} {v : V} (hE : E.Ok) (inv : Inv E nt w0 S0 W0 m ρ0 ρ S w (es.st nt) a) (h : silE E nt es o.op = some v) : SilOkE E ρ S (es.st nt) a w o v := by
  have ev : ∀ {x : Operand} {u : V}, evE E nt es x = some u → RV ρ (es.st nt).hp.length S w u (a.eval x) := fun {x u} hx => by
    obtain ⟨v, hv, e⟩ := evK.out (evE.of (k := fun v => v = u) hx rfl) inv
    subst e; exact hv
  unfold silE at h
  split at h
  · rename_i x ho
    exact .of hE inv (by rw [ho]; simp [isLd]) (by rw [ho]; exact evE.of h rfl)
  · rename_i x ho
    exact .of hE inv (by rw [ho]; simp [isLd]) (by rw [ho]; exact evE.of h rfl)
  · rename_i c x y ho
    unfold sil_pick at h
    split at h
    · rename_i u hu
      split at h
      · rename_i hb; exact .of hE inv (by rw [ho]; simp [isLd]) (by rw [ho]; exact evE.of hu (boolE.of hb (evE.of h rfl)))
      · rename_i hb; exact .of hE inv (by rw [ho]; simp [isLd]) (by rw [ho]; exact evE.of hu (boolE.of hb (evE.of h rfl)))
      · cases h
    · cases h
  · rename_i op t x y yt ho
    unfold sil_binOp at h
    split at h
    · rename_i u hu
      split at h
      · rename_i q hq; exact .of hE inv (by rw [ho]; simp [isLd]) (by rw [ho]; exact evE.of hu (evE.of hq (binE.of h rfl)))
      · cases h
    · cases h
  · rename_i op t x ho
    unfold sil_unOp at h
    split at h
    · rename_i u hu; exact .of hE inv (by rw [ho]; simp [isLd]) (by rw [ho]; exact evE.of hu (unE.of h rfl))
    · cases h
  · rename_i t x ho
    unfold sil_load at h
    split at h
    · rename_i u hu
      split at h
      · rename_i q hq
        cases hb : noTupB q with
        | false => rw [hb] at h; cases h
        | true =>
          rw [hb] at h
          have := some_eq h; subst this
          exact .of hE inv (by rw [ho]; simp [ldE]) (by rw [ho]; exact evE.of hu (loadE.of hq rfl))
      · cases h
    · cases h
  · rename_i t x f ho
    unfold sil_fieldAddr at h
    split at h
    · rename_i u hu; exact .of hE inv (by rw [ho]; simp [isLd]) (by rw [ho]; exact evE.of hu (fieldE.of h rfl))
    · cases h
  · rename_i t x i ho
    unfold sil_indexAddr at h
    split at h
    · rename_i u hu
      split at h
      · rename_i q hq; exact .of hE inv (by rw [ho]; simp [isLd]) (by rw [ho]; exact evE.of hu (evE.of hq (indexE.of h rfl)))
      · cases h
    · cases h
  · rename_i t x i ho
    unfold sil_index at h
    split at h
    · rename_i u hu
      split at h
      · rename_i q hq
        split at h
        · obtain ⟨z, z1, z2⟩ := indexArrO.out hE h (ev hu) (ev hq)
          exact ⟨z, fun w' _ => by simp [execOp, ho, z1], z2⟩
        · exact .of hE inv (by rw [ho]; simp [isLd]) (by rw [ho]; exact evE.of hu (evE.of hq (strIndexE.of h rfl)))
      · cases h
    · cases h
  · rename_i t x i ho
    unfold sil_field at h
    split at h
    · rename_i u hu; exact .of hE inv (by rw [ho]; simp [isLd]) (by rw [ho]; exact evE.of hu (partE.of h rfl))
    · cases h
  · rename_i t x lo hi mx ho
    unfold sil_slice at h
    split at h
    · rename_i u hu; exact .of hE inv (by rw [ho]; simp [isLd]) (by rw [ho]; exact evE.of hu (sliceE.of h rfl))
    · cases h
  · rename_i x i ho
    unfold sil_extract at h
    split at h
    · rename_i u hu; exact .of hE inv (by rw [ho]; simp [isLd]) (by rw [ho]; exact evE.of hu (extractE.of h rfl))
    · cases h
  · rename_i x ho
    unfold sil_nilCheck at h
    split at h
    · rename_i u hu; exact .of hE inv (by rw [ho]; simp [isLd]) (by rw [ho]; exact evE.of hu (nilCheckE.of h rfl))
    · cases h
  · rename_i src dst x ho
    unfold sil_convert at h
    split at h
    · rename_i u hu
      split at h
      · rename_i ts td hts htd
        split at h
        · rename_i e hs hd
          obtain ⟨r, r1, r2⟩ := toStrE.out hE inv h (ev hu)
          refine ⟨r, fun w' hw => ?_, r2⟩
          have := r1 w' (hw (by rw [ho]; simp [ldE, hts, htd, hs, hd]))
          simp [execOp, ho, this]
        · exact .of hE inv (by rw [ho]; simp [isLd]) (by rw [ho]; exact evE.of hu (convE.of h rfl))
      · cases h
    · cases h
  · rename_i f first caps ho
    unfold sil_makeFunc at h
    split at h
    · rename_i us hus
      split at h
      · rename_i vs hvs
        have := some_eq h; subst this
        exact .of hE inv (by rw [ho]; simp [isLd]) (by rw [ho]; exact evsE.of hus (evsE.of hvs rfl))
      · cases h
    · cases h
  · rename_i t parts ho
    unfold sil_build at h
    split at h
    · rename_i ps hps
      obtain ⟨y, y1, y2⟩ := buildO.out hE h (partsE.out hps inv)
      refine ⟨y, fun w' _ => ?_, y2⟩
      have e : (parts.map fun (i, x) => (i, a.eval x)) = (List.map (fun p => (p.1, a.eval p.2)) parts.toList).toArray := by apply Array.ext'; simp
      simp only [execOp, ho, e, Sem.run_bind, y1, Result.andThen_ok]
      rfl
    · cases h
  · rename_i t x k ok ho
    unfold sil_lookup at h
    split at h
    · rename_i u hu
      split at h
      · rename_i q hq
        obtain ⟨r, r1, r2⟩ := lookupE.out hE inv h (ev hu) (ev hq)
        refine ⟨r, fun w' hw => ?_, r2⟩
        have := r1 w' (hw (by rw [ho]; rfl))
        simp [execOp, ho, this]
      · cases h
    · cases h
  · rename_i c ho
    unfold sil_call at h
    split at h
    · rename_i b hb
      split at h
      · rename_i t x ht hx
        split at h
        · rename_i u hu
          refine .of hE inv (by rw [ho]; simp [isLd]) ?_
          rw [ho]
          unfold silVC
          simp only [hb, ht, hx]
          exact evE.of hu (lenE.of h rfl)
        · cases h
      · rename_i hne x y hx
        split at h
        · rename_i u hu
          split at h
          · rename_i q hq
            refine .of hE inv (by rw [ho]; simp [isLd]) ?_
            rw [ho]
            unfold silVC
            simp only [hb, hx]
            exact evE.of hu (evE.of hq (minmaxE.of h rfl))
          · cases h
        · cases h
      · cases h
    · cases h
  · cases h

end
end
end Go.E
