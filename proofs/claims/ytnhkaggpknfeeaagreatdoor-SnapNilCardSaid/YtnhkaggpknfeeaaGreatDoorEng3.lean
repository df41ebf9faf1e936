/-
  THE ENGINE, PART 3: what numbers, loads, stores, fields and new variables ask and give.
-/
import Derived.Test.YtnhkaggpknfeeaaGreatDoorEng2
import Derived.Laws.StructEq
namespace Go.E
open Go

section
variable {E : Env} {nt : Nat} {w0 : World} {S0 W0 : Nat → Prop} {m : Nat} {ρ0 ρ : Nat → Bk} {S : Nat → Prop} {w : World} {s : St} {a : Act}

abbrev V.int (k : IntKind) (n : Int) : V := .d (.v (.int k n))
abbrev V.bool (b : Bool) : V := .d (.v (.bool b))
abbrev V.str (b : ByteArray) : V := .d (.v (.string b))

/-! ### numbers -/
def sameK (a b : IntKind) (p : Prop) : Prop := match a, b with
  | .i8, .i8 | .i16, .i16 | .i32, .i32 | .i64, .i64 | .u8, .u8 | .u16, .u16 | .u32, .u32 | .u64, .u64 => p
  | _, _ => False
theorem sameK.out {a b : IntKind} {p : Prop} (h : sameK a b p) : a = b ∧ p := by
  cases a <;> cases b <;> first | exact ⟨rfl, h⟩ | exact h.elim

def intBin (op : BinOp) (a : IntKind) (i : Int) (b : IntKind) (j : Int) (k : V → Prop) : Prop := match op with
  | .shl => 0 ≤ j ∧ k (.int a (a.wrap (i * 2 ^ (min j.toNat a.bits))))
  | .shr => 0 ≤ j ∧ k (.int a (i.fdiv (2 ^ (min j.toNat a.bits))))
  | .add => sameK a b (k (.int a (a.wrap (i + j))))
  | .sub => sameK a b (k (.int a (a.wrap (i - j))))
  | .mul => sameK a b (k (.int a (a.wrap (i * j))))
  | .quo => sameK a b (j ≠ 0 ∧ k (.int a (a.wrap (i.tdiv j))))
  | .rem => sameK a b (j ≠ 0 ∧ k (.int a (i.tmod j)))
  | .and => sameK a b (k (.int a (a.wrap (BitVec.ofInt a.bits i &&& BitVec.ofInt a.bits j).toNat)))
  | .or => sameK a b (k (.int a (a.wrap (BitVec.ofInt a.bits i ||| BitVec.ofInt a.bits j).toNat)))
  | .xor => sameK a b (k (.int a (a.wrap (BitVec.ofInt a.bits i ^^^ BitVec.ofInt a.bits j).toNat)))
  | .eql => sameK a b (k (.bool (i == j)))
  | .neq => sameK a b (k (.bool (i != j)))
  | .lss => sameK a b (k (.bool (decide (i < j))))
  | .leq => sameK a b (k (.bool (decide (i ≤ j))))
  | .gtr => sameK a b (k (.bool (decide (i > j))))
  | .geq => sameK a b (k (.bool (decide (i ≥ j))))
  | _ => False

theorem intBin.out {op : BinOp} {x : IntKind} {i : Int} {y : IntKind} {j : Int} {k : V → Prop} (h : intBin op x i y j k) (P : Program) (t : TypeId) :
    ∃ z, (∀ w, (binOp op t (.int x i) (.int y j)).run P w = .ok z w) ∧ cellVal z = true ∧ k (.d (.v z)) := by
  cases op <;> simp only [intBin] at h <;> first
    | exact h.elim
    | (obtain ⟨h1, h2⟩ := h; refine ⟨_, ?_, rfl, h2⟩; simp [binOp, Op.shift, show ¬ j < 0 by omega]; done)
    | (obtain ⟨rfl, h1, h2⟩ := sameK.out h; refine ⟨_, ?_, rfl, h2⟩; simp [binOp, Op.intDiv, h1]; done)
    | (obtain ⟨rfl, h2⟩ := sameK.out h; refine ⟨_, ?_, rfl, h2⟩; simp [binOp, Op.intArith, Op.intBits, Op.intCmp]; done)

def boolEq (E : Env) (op : BinOp) (t : TypeId) (i j : Bool) (k : V → Prop) : Prop := match E.T t with
  | some ti => match ti.desc, op with
    | .bool, .eql => k (.bool (i == j))
    | .bool, .neq => k (.bool (!(i == j)))
    | _, _ => False
  | none => False

def strBin (op : BinOp) (i j : ByteArray) (k : V → Prop) : Prop := match op with
  | .eql => k (.bool (i == j))
  | .neq => k (.bool (i != j))
  | .add => i.size + j.size ≤ 9223372036854775807 ∧ k (.str (i ++ j))
  | _ => False

/-- nil, held against a slice, or a pointer. -/
def nilS (E : Env) (op : BinOp) (t : TypeId) (isNil : Bool) (k : V → Prop) : Prop := match E.T t with
  | some ti => match ti.desc, op with
    | .slice _, .eql => k (.bool isNil)
    | .slice _, .neq => k (.bool (!isNil))
    | _, _ => False
  | none => False
def nilP (E : Env) (op : BinOp) (t : TypeId) (isNil : Bool) (k : V → Prop) : Prop := match E.T t with
  | some ti => match ti.desc, op with
    | .pointer _, .eql => k (.bool isNil)
    | .pointer _, .neq => k (.bool (!isNil))
    | _, _ => False
  | none => False

def binVC (E : Env) (op : BinOp) (t : TypeId) (x y : V) (k : V → Prop) : Prop := match x, y with
  | .d (.v (.int a i)), .d (.v (.int b j)) => intBin op a i b j k
  | .d (.v (.bool i)), .d (.v (.bool j)) => boolEq E op t i j k
  | .d (.v (.string i)), .d (.v (.string j)) => strBin op i j k
  | .d (.sl (some b) _ _ _), .d (.sl (some true) 0 _ _) => nilS E op t b k
  | .ms _ _ _ _ _, .d (.sl (some true) 0 _ _) => nilS E op t false k
  | .d (.v (.pointer none)), .d (.v (.pointer none)) => nilP E op t true k
  | .loc _ _, .d (.v (.pointer none)) => nilP E op t false k
  | .pp _, .d (.v (.pointer none)) => nilP E op t false k
  | .re _ _ _ _, .d (.v (.pointer none)) => nilP E op t false k
  | _, _ => False

theorem RV.scalar {ρ N S w} {x y : Value} (h : RV ρ N S w (.d (.v x)) y) : x = y := by
  cases h with | d h => cases h with | v _ => rfl

theorem und_eq {E : Env} (hE : E.Ok) {t : TypeId} {ti : TI} (h : E.T t = some ti) : E.P.underlying t = some ti.desc := (hE.T t ti h).und

theorem equalIn_slice (P : Program) (d : Nat) (t e : TypeId) (q : Option Addr) (l c : Nat) (w : World) (h : P.underlying t = some (.slice e)) :
    (Op.equalIn (d + 1) t (.slice q l c) (.slice none 0 0)).run P w = .ok q.isNone w := by
  cases q <;> simp [Op.equalIn, run_underlying h]
theorem equalIn_pointer (P : Program) (d : Nat) (t e : TypeId) (q : Option Addr) (w : World) (h : P.underlying t = some (.pointer e)) :
    (Op.equalIn (d + 1) t (.pointer q) (.pointer none)).run P w = .ok q.isNone w := by
  cases q <;> simp [Op.equalIn, run_underlying h]
theorem equalIn_bool (P : Program) (d : Nat) (t : TypeId) (i j : Bool) (w : World) (h : P.underlying t = some .bool) :
    (Op.equalIn (d + 1) t (.bool i) (.bool j)).run P w = .ok (i == j) w := by
  simp [Op.equalIn, run_underlying h]
theorem equal_slice (P : Program) (t e : TypeId) (q : Option Addr) (l c : Nat) (w : World) (h : P.underlying t = some (.slice e)) :
    (Op.equal t (.slice q l c) (.slice none 0 0)).run P w = .ok q.isNone w := equalIn_slice P 9999 t e q l c w h
theorem equal_pointer (P : Program) (t e : TypeId) (q : Option Addr) (w : World) (h : P.underlying t = some (.pointer e)) :
    (Op.equal t (.pointer q) (.pointer none)).run P w = .ok q.isNone w := equalIn_pointer P 9999 t e q w h
theorem equal_bool (P : Program) (t : TypeId) (i j : Bool) (w : World) (h : P.underlying t = some .bool) :
    (Op.equal t (.bool i) (.bool j)).run P w = .ok (i == j) w := equalIn_bool P 9999 t i j w h

theorem nilS.out {op : BinOp} {t : TypeId} {b : Bool} {k : V → Prop} (hE : E.Ok) (h : nilS E op t b k) (q : Option Addr) (l c : Nat) (hb : b = q.isNone) :
    ∃ z, (∀ w, (binOp op t (.slice q l c) (.slice none 0 0)).run E.P w = .ok z w) ∧ cellVal z = true ∧ k (.d (.v z)) := by
  unfold nilS at h
  split at h
  · rename_i ti hti
    have hu := und_eq hE hti
    split at h
    · rename_i hd; rw [hd] at hu; subst hb; refine ⟨_, ?_, rfl, h⟩
      intro w; simp [binOp, equal_slice _ _ _ q l c w hu]
    · rename_i hd; rw [hd] at hu; subst hb; refine ⟨_, ?_, rfl, h⟩
      intro w; simp [binOp, equal_slice _ _ _ q l c w hu]
    · exact h.elim
  · exact h.elim

theorem nilP.out {op : BinOp} {t : TypeId} {b : Bool} {k : V → Prop} (hE : E.Ok) (h : nilP E op t b k) (q : Option Addr) (hb : b = q.isNone) :
    ∃ z, (∀ w, (binOp op t (.pointer q) (.pointer none)).run E.P w = .ok z w) ∧ cellVal z = true ∧ k (.d (.v z)) := by
  unfold nilP at h
  split at h
  · rename_i ti hti
    have hu := und_eq hE hti
    split at h
    · rename_i hd; rw [hd] at hu; subst hb; refine ⟨_, ?_, rfl, h⟩
      intro w; simp [binOp, equal_pointer _ _ _ q w hu]
    · rename_i hd; rw [hd] at hu; subst hb; refine ⟨_, ?_, rfl, h⟩
      intro w; simp [binOp, equal_pointer _ _ _ q w hu]
    · exact h.elim
  · exact h.elim

theorem boolEq.out {op : BinOp} {t : TypeId} {i j : Bool} {k : V → Prop} (hE : E.Ok) (h : boolEq E op t i j k) :
    ∃ z, (∀ w, (binOp op t (.bool i) (.bool j)).run E.P w = .ok z w) ∧ cellVal z = true ∧ k (.d (.v z)) := by
  unfold boolEq at h
  split at h
  · rename_i ti hti
    have hu := und_eq hE hti
    split at h
    · rename_i hd; rw [hd] at hu; refine ⟨_, ?_, rfl, h⟩
      intro w; simp [binOp, equal_bool _ _ i j w hu]
    · rename_i hd; rw [hd] at hu; refine ⟨_, ?_, rfl, h⟩
      intro w; simp [binOp, equal_bool _ _ i j w hu]
    · exact h.elim
  · exact h.elim

theorem strBin.out {op : BinOp} {t : TypeId} {i j : ByteArray} {k : V → Prop} (h : strBin op i j k) (P : Program) :
    ∃ z, (∀ w, (binOp op t (.string i) (.string j)).run P w = .ok z w) ∧ cellVal z = true ∧ k (.d (.v z)) := by
  unfold strBin at h
  split at h
  · refine ⟨_, ?_, rfl, h⟩; simp [binOp, Op.stringOp, beq_toListBytes]
  · refine ⟨_, ?_, rfl, h⟩; simp [binOp, Op.stringOp, bne, beq_toListBytes]
  · refine ⟨_, ?_, rfl, h.2⟩
    intro w
    have := run_string_add_sum (P := P) (w := w) i j (by have := h.1; omega)
    simpa [binOp] using this
  · exact h.elim

theorem eqGuard_plain (P : Program) (op : BinOp) (t : TypeId) (x y : Operand) (u v : Value) (w : World) (h : u ≠ .nilIface) (h' : cellVal u = true) : (eqGuard op t x y u v).run P w = .ok () w := by
  unfold eqGuard
  cases op <;> simp <;> cases u <;> simp_all [cellVal, Value.oneCell']

theorem isT {b : Bool} (h : some b ≠ some false) : b = true := by cases b <;> simp_all
theorem isF {b : Bool} (h : some b ≠ some true) : b = false := by cases b <;> simp_all
theorem RV.nilptr {ρ N S w} {y : Value} (h : RV ρ N S w (.d (.v (.pointer none))) y) : y = .pointer none := (RV.scalar h).symm

theorem binVC.out {op : BinOp} {t : TypeId} {u v : V} {x y : Value} {k : V → Prop} {N} (hE : E.Ok) (h : binVC E op t u v k) (hu : RV ρ N S w u x) (hv : RV ρ N S w v y) :
    ∃ z, (∀ w, (binOp op t x y).run E.P w = .ok z w) ∧ cellVal z = true ∧ cellVal x = true ∧ x ≠ .nilIface ∧ k (.d (.v z)) := by
  unfold binVC at h
  split at h
  · have e1 := RV.scalar hu; have e2 := RV.scalar hv; subst e1; subst e2
    obtain ⟨z, h1, h2, h3⟩ := h.out E.P t
    exact ⟨z, h1, h2, rfl, by simp, h3⟩
  · have e1 := RV.scalar hu; have e2 := RV.scalar hv; subst e1; subst e2
    obtain ⟨z, h1, h2, h3⟩ := h.out hE
    exact ⟨z, h1, h2, rfl, by simp, h3⟩
  · have e1 := RV.scalar hu; have e2 := RV.scalar hv; subst e1; subst e2
    obtain ⟨z, h1, h2, h3⟩ := h.out (t := t) E.P
    exact ⟨z, h1, h2, rfl, by simp, h3⟩
  · cases hv with | d hv => cases hv with
      | sl g hq _ _ _ _ _ => exact absurd rfl hq
      | e hq => exact absurd rfl hq
      | nil _ =>
      cases hu with | d hu => cases hu with
        | nil hq =>
          cases isT hq
          obtain ⟨z, h1, h2, h3⟩ := h.out hE none 0 0 rfl; exact ⟨z, h1, h2, rfl, by simp, h3⟩
        | e hq =>
          cases isF hq
          obtain ⟨z, h1, h2, h3⟩ := h.out hE (some _) _ _ rfl; exact ⟨z, h1, h2, rfl, by simp, h3⟩
        | sl g hq _ _ _ _ _ =>
          cases isF hq
          obtain ⟨z, h1, h2, h3⟩ := h.out hE (some _) _ _ rfl; exact ⟨z, h1, h2, rfl, by simp, h3⟩
  · cases hv with | d hv => cases hv with
      | sl g hq _ _ _ _ _ => exact absurd rfl hq
      | e hq => exact absurd rfl hq
      | nil _ =>
      cases hu with | ms _ _ _ => obtain ⟨z, h1, h2, h3⟩ := h.out hE (some _) _ _ rfl; exact ⟨z, h1, h2, rfl, by simp, h3⟩
  · have e1 := RV.nilptr hu; have e2 := RV.nilptr hv; subst e1; subst e2
    obtain ⟨z, h1, h2, h3⟩ := h.out hE none rfl; exact ⟨z, h1, h2, rfl, by simp, h3⟩
  · have e2 := RV.nilptr hv; subst e2
    cases hu with | loc _ => obtain ⟨z, h1, h2, h3⟩ := h.out hE (some _) rfl; exact ⟨z, h1, h2, rfl, by simp, h3⟩
  · have e2 := RV.nilptr hv; subst e2
    cases hu with | pp g _ _ _ => obtain ⟨z, h1, h2, h3⟩ := h.out hE (some _) rfl; exact ⟨z, h1, h2, rfl, by simp, h3⟩
  · have e2 := RV.nilptr hv; subst e2
    cases hu with | re _ => obtain ⟨z, h1, h2, h3⟩ := h.out hE (some _) rfl; exact ⟨z, h1, h2, rfl, by simp, h3⟩
  · exact h.elim

/-! ### one operand -/
def unVC (op : UnOp) (x : V) (k : V → Prop) : Prop := match op, x with
  | .not, .d (.v (.bool b)) => k (.bool (!b))
  | .neg, .d (.v (.int q n)) => k (.int q (q.wrap (0 - n)))
  | .xor, .d (.v (.int q n)) => k (.int q (q.wrap (BitVec.ofInt q.bits (if q.signed then -1 else q.max) ^^^ BitVec.ofInt q.bits n).toNat))
  | _, _ => False

theorem unVC.out {op : UnOp} {u : V} {x : Value} {k : V → Prop} {N} (h : unVC op u k) (hu : RV ρ N S w u x) (P : Program) :
    ∃ z, (∀ w, (Op.unary op x).run P w = .ok z w) ∧ cellVal z = true ∧ k (.d (.v z)) := by
  unfold unVC at h
  split at h
  · have e1 := RV.scalar hu; subst e1; refine ⟨_, ?_, rfl, h⟩; simp [Op.unary]
  · have e1 := RV.scalar hu; subst e1; refine ⟨_, ?_, rfl, h⟩; simp [Op.unary, Op.intArith]
  · have e1 := RV.scalar hu; subst e1; refine ⟨_, ?_, rfl, h⟩; simp [Op.unary, Op.intBits]
  · exact h.elim

end
end Go.E
