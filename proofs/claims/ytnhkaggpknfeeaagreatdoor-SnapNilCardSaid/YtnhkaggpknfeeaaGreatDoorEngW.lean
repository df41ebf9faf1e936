/-
  THE ENGINE, PART W: the evaluator's operations that leave the world alone.
-/
import Derived.Test.YtnhkaggpknfeeaaGreatDoorEngV
namespace Go.E
open Go
noncomputable section

section
variable {E : Env} {nt : Nat} {es es' : ES}

theorem some_eq {α : Type} {a b : α} (h : some a = some b) : a = b := Option.some.inj h

/-! ### two operands -/
def boolEqE (E : Env) (op : BinOp) (t : TypeId) (i j : Bool) : Option V := match E.T t with
  | some ti => match ti.desc, op with
    | .bool, .eql => rB (i == j)
    | .bool, .neq => rB (!(i == j))
    | _, _ => none
  | none => none
theorem boolEqE.of {op : BinOp} {t : TypeId} {i j : Bool} {v : V} {k : V → Prop} (h : boolEqE E op t i j = some v) (hk : k v) : boolEq E op t i j k := by
  unfold boolEqE at h
  unfold boolEq
  split at h
  · split at h
    · rw [rB_eq] at h; have := some_eq h; subst this; simp_all
    · rw [rB_eq] at h; have := some_eq h; subst this; simp_all
    · cases h
  · cases h

def beqL : List UInt8 → List UInt8 → Bool
  | [], [] => true
  | x :: xs, y :: ys => Nat.beq x.toNat y.toNat && beqL xs ys
  | _, _ => false
theorem beqL_eq : ∀ (a b : List UInt8), beqL a b = (a == b)
  | [], [] => rfl
  | [], _ :: _ => rfl
  | _ :: _, [] => rfl
  | x :: xs, y :: ys => by
    simp only [beqL, beqL_eq xs ys]
    have : Nat.beq x.toNat y.toNat = (x == y) := by
      by_cases e : x = y
      · subst e; simp
      · rw [beq_f (fun h => e (UInt8.toNat_inj.1 h))]; simp [e]
    rw [this]; rfl
/-- A byte, spelt for the kernel. -/
def byteE (b : UInt8) : UInt8 := fN b.toNat UInt8.ofNat
theorem byteE_eq (b : UInt8) : byteE b = b := by simp [byteE, fN_eq]
def appE {α : Type} : List α → List α → List α
  | [], r => r
  | x :: l, r => x :: appE l r
theorem appE_eq {α : Type} : ∀ (l r : List α), appE l r = l ++ r
  | [], _ => rfl
  | x :: l, r => by simp [appE, appE_eq l r]
def ofL (l : List UInt8) : ByteArray := ⟨⟨l⟩⟩
theorem ofL_app (a b : ByteArray) : ofL (appE a.data.toList b.data.toList) = a ++ b := by
  rw [appE_eq]
  apply ByteArray.ext
  simp [ofL]
/-- Lists as long as they are. -/
def spine {α β : Type} : List α → (List α → β) → β
  | [], k => k []
  | x :: l, k => spine l fun r => k (x :: r)
theorem spine_eq {α β : Type} : ∀ (l : List α) (k : List α → β), spine l k = k l
  | [], _ => rfl
  | x :: l, k => spine_eq l fun r => k (x :: r)
def rS (l : List UInt8) : Option V := spine l fun l => some (.d (.v (.string (ofL l))))
theorem rS_eq (l : List UInt8) : rS l = some (V.str (ofL l)) := spine_eq _ _

def strBinE (op : BinOp) (i j : ByteArray) : Option V := match op with
  | .eql => rB (beqL i.data.toList j.data.toList)
  | .neq => rB (!(beqL i.data.toList j.data.toList))
  | .add => bif Nat.ble (i.data.toList.length + j.data.toList.length) 9223372036854775807 then rS (appE i.data.toList j.data.toList) else none
  | _ => none
theorem size_list (b : ByteArray) : b.size = b.data.toList.length := rfl
theorem beq_list (a b : ByteArray) : (a == b) = (a.data.toList == b.data.toList) := by
  rw [beq_toListBytes, ByteArray.toList_eq, ByteArray.toList_eq]
theorem strBinE.of {op : BinOp} {i j : ByteArray} {v : V} {k : V → Prop} (h : strBinE op i j = some v) (hk : k v) : strBin op i j k := by
  unfold strBinE at h
  unfold strBin
  split at h
  · rw [rB_eq] at h; have := some_eq h; subst this; rw [beqL_eq, ← beq_list] at hk; exact hk
  · rw [rB_eq] at h; have := some_eq h; subst this; rw [beqL_eq, ← beq_list] at hk; exact hk
  · cases hb : Nat.ble (i.data.toList.length + j.data.toList.length) 9223372036854775807 with
    | false => rw [hb] at h; cases h
    | true =>
      rw [hb] at h
      simp only [cond_true, rS_eq, ofL_app] at h
      have := some_eq h; subst this
      have := Nat.le_of_ble_eq_true hb
      exact ⟨by rw [size_list, size_list]; exact this, hk⟩
  · cases h

def nilSE (E : Env) (op : BinOp) (t : TypeId) (isNil : Bool) : Option V := match E.T t with
  | some ti => match ti.desc, op with
    | .slice _, .eql => rB isNil
    | .slice _, .neq => rB (!isNil)
    | _, _ => none
  | none => none
theorem nilSE.of {op : BinOp} {t : TypeId} {b : Bool} {v : V} {k : V → Prop} (h : nilSE E op t b = some v) (hk : k v) : nilS E op t b k := by
  unfold nilSE at h
  unfold nilS
  split at h
  · split at h
    · rw [rB_eq] at h; have := some_eq h; subst this; simp_all
    · rw [rB_eq] at h; have := some_eq h; subst this; simp_all
    · cases h
  · cases h
def nilPE (E : Env) (op : BinOp) (t : TypeId) (isNil : Bool) : Option V := match E.T t with
  | some ti => match ti.desc, op with
    | .pointer _, .eql => rB isNil
    | .pointer _, .neq => rB (!isNil)
    | _, _ => none
  | none => none
theorem nilPE.of {op : BinOp} {t : TypeId} {b : Bool} {v : V} {k : V → Prop} (h : nilPE E op t b = some v) (hk : k v) : nilP E op t b k := by
  unfold nilPE at h
  unfold nilP
  split at h
  · split at h
    · rw [rB_eq] at h; have := some_eq h; subst this; simp_all
    · rw [rB_eq] at h; have := some_eq h; subst this; simp_all
    · cases h
  · cases h

def binE (E : Env) (op : BinOp) (t : TypeId) (x y : V) : Option V := match x, y with
  | .d (.v (.int a i)), .d (.v (.int b j)) => intBinE op a i b j
  | .d (.v (.bool i)), .d (.v (.bool j)) => boolEqE E op t i j
  | .d (.v (.string i)), .d (.v (.string j)) => strBinE op i j
  | .d (.sl (some b) _ _ _), .d (.sl (some true) 0 _ _) => nilSE E op t b
  | .ms _ _ _ _ _, .d (.sl (some true) 0 _ _) => nilSE E op t false
  | .d (.v (.pointer none)), .d (.v (.pointer none)) => nilPE E op t true
  | .loc _ _, .d (.v (.pointer none)) => nilPE E op t false
  | .pp _, .d (.v (.pointer none)) => nilPE E op t false
  | .re _ _ _ _, .d (.v (.pointer none)) => nilPE E op t false
  | _, _ => none
theorem binE.of {op : BinOp} {t : TypeId} {x y v : V} {k : V → Prop} (h : binE E op t x y = some v) (hk : k v) : binVC E op t x y k := by
  unfold binE at h
  split at h
  · exact intBinE.of h hk
  · exact boolEqE.of h hk
  · exact strBinE.of h hk
  · exact nilSE.of h hk
  · exact nilSE.of h hk
  · exact nilPE.of h hk
  · exact nilPE.of h hk
  · exact nilPE.of h hk
  · exact nilPE.of h hk
  · cases h

def unE (op : UnOp) (x : V) : Option V := match op, x with
  | .not, .d (.v (.bool b)) => rB (!b)
  | .neg, .d (.v (.int q n)) => rI q (wrapE q (0 - n))
  | .xor, .d (.v (.int q n)) => rI q (wrapE q (BitVec.ofInt q.bits (if q.signed then -1 else q.max) ^^^ BitVec.ofInt q.bits n).toNat)
  | _, _ => none
theorem unE.of {op : UnOp} {x v : V} {k : V → Prop} (h : unE op x = some v) (hk : k v) : unVC op x k := by
  unfold unE at h
  split at h
  · rw [rB_eq] at h; have := some_eq h; subst this; exact hk
  · rw [rI_eq, wrapE_eq] at h; have := some_eq h; subst this; exact hk
  · rw [rI_eq, wrapE_eq] at h; have := some_eq h; subst this; exact hk
  · cases h

/-! ### memory -/
def cellsAtE (es : ES) (p : V) (n : Nat) : Option (List V) := match p with
  | .loc c off => match getC es.h c with
    | some (.cells _ vs) => match dropE off vs with
      | some r => takeE n r
      | none => none
    | _ => none
  | .pp ds => match takeE n ds with
    | some q => some (mapE V.d q)
    | none => none
  | .re c i kk sz => match getC es.h c with
    | some (.rows _ nn _ sz' f) => bif Nat.beq sz' sz && Nat.blt i nn then (match dropE kk (f i) with
      | some r => takeE n r
      | none => none) else none
    | _ => none
  | _ => none
theorem blt_o {a b : Nat} (h : Nat.blt a b = true) : a < b := by simpa [Nat.blt_eq] using h
theorem cellsAtE.of {p : V} {n : Nat} {vs : List V} {k : List V → Prop} (h : cellsAtE es p n = some vs) (hk : k vs) : cellsAt (es.st nt) p n k := by
  unfold cellsAtE at h
  unfold cellsAt
  split at h
  · split at h
    · rename_i hc
      have := getC.of hc
      simp only [ES.st, this]
      split at h
      · rename_i r hr; exact dropE.of hr (takeE.of h hk)
      · cases h
    · cases h
  · split at h
    · rename_i q hq
      have := some_eq h; subst this
      exact takeE.of hq (mapE.of hk)
    · cases h
  · split at h
    · rename_i hc
      have := getC.of hc
      simp only [ES.st, this]
      rename_i c i kk sz _ _ nn _ sz' f
      cases hb : (Nat.beq sz' sz && Nat.blt i nn) with
      | false => rw [hb] at h; cases h
      | true =>
        rw [hb] at h
        obtain ⟨h1, h2⟩ := Bool.and_eq_true_iff.1 hb
        simp only [cond_true] at h
        rw [h1]
        refine ⟨blt_o h2, ?_⟩
        split at h
        · rename_i r hr; exact dropE.of hr (takeE.of h hk)
        · cases h
    · cases h
  · cases h

def loadE' (ti : TI) (vs : List V) : Option V := match isAggD ti.desc with
  | true => some (.agg vs)
  | false => match vs with
    | [x] => some x
    | _ => none
theorem loadE'.of {ti : TI} {vs : List V} {v : V} {k : V → Prop} (h : loadE' ti vs = some v) (hk : k v) : loadK ti vs k := by
  unfold loadE' at h
  unfold loadK
  split at h
  · rename_i hq; rw [hq]; have := some_eq h; subst this; exact hk
  · rename_i hq
    rw [hq]
    split at h
    · have := some_eq h; subst this; exact hk
    · cases h
def loadE (E : Env) (t : TypeId) (es : ES) (p : V) : Option V := match E.T t with
  | some ti => match cellsAtE es p ti.size with
    | some vs => loadE' ti vs
    | none => none
  | none => none
theorem loadE.of {t : TypeId} {p v : V} {k : V → Prop} (h : loadE E t es p = some v) (hk : k v) : loadVC E t (es.st nt) p k := by
  unfold loadE at h
  unfold loadVC
  split at h
  · rename_i ti hti
    rw [hti]
    split at h
    · rename_i vs hvs; exact cellsAtE.of hvs (loadE'.of h hk)
    · cases h
  · cases h

def addPE (p : V) (o : Nat) : Option V := match p with
  | .loc c off => fN (off + o) fun j => some (.loc c j)
  | .pp ds => match dropE o ds with
    | some r => some (.pp r)
    | none => none
  | .re c i kk sz => fN (kk + o) fun j => some (.re c i j sz)
  | _ => none
theorem addPE.of {p v : V} {o : Nat} {k : V → Prop} (h : addPE p o = some v) (hk : k v) : addP p o k := by
  unfold addPE at h
  unfold addP
  split at h
  · rw [fN_eq] at h; have := some_eq h; subst this; exact hk
  · split at h
    · rename_i r hr; have := some_eq h; subst this; exact dropE.of hr hk
    · cases h
  · rw [fN_eq] at h; have := some_eq h; subst this; exact hk
  · cases h
def fieldE (E : Env) (t : TypeId) (p : V) (f : Nat) : Option V := match E.T t with
  | some ti => match ti.desc with
    | .struct fs => match nth fs.toList f with
      | some fd => match E.T fd.type with
        | some tf => bif Nat.beq tf.size 0 then none else addPE p fd.offset
        | none => none
      | none => none
    | _ => none
  | none => none
theorem fieldE.of {t : TypeId} {p v : V} {f : Nat} {k : V → Prop} (h : fieldE E t p f = some v) (hk : k v) : fieldVC E t p f k := by
  unfold fieldE at h
  unfold fieldVC
  split at h
  · rename_i ti hti
    rw [hti]
    split at h
    · rename_i fs hd
      simp only [hd]
      split at h
      · rename_i fd hf
        simp only [hf]
        split at h
        · rename_i tf htf
          simp only [htf]
          cases hz : Nat.beq tf.size 0 with
          | true => rw [hz] at h; cases h
          | false => rw [hz] at h; exact addPE.of h hk
        · cases h
      · cases h
    · cases h
  · cases h

def intE (v : V) : Option Int := match v with
  | .d (.v (.int _ n)) => some n
  | _ => none
theorem intE.of {v : V} {n : Int} {k : Int → Prop} (h : intE v = some n) (hk : k n) : vint v fun _ n => k n := by
  unfold intE at h
  unfold vint
  split at h
  · have := some_eq h; subst this; exact hk
  · cases h

def indexE (E : Env) (t : TypeId) (p i : V) : Option V := match E.T t with
  | some ti => match intE i with
    | some j => match ti.desc with
      | .slice e => match E.T e, p with
        | some te, .d (.sl _ n sz f) => bif Nat.beq sz te.size && (decide (0 ≤ j) && decide (j < n)) then some (.pp (f j.toNat)) else none
        | some te, .ms c off n _ sz => bif Nat.beq sz te.size && (decide (0 ≤ j) && decide (j < n)) then fN (off + j.toNat) fun x => some (.re c x 0 sz) else none
        | _, _ => none
      | .array l e => match E.T e, p with
        | some te, .pr n sz f => bif (Nat.beq sz te.size && Nat.beq n l) && (decide (0 ≤ j) && decide (j < n)) then some (.pp (f j.toNat)) else none
        | some te, .loc c off => bif decide (0 ≤ j) && decide (j < l) then fN (off + j.toNat * te.size) fun x => some (.loc c x) else none
        | _, _ => none
      | _ => none
    | none => none
  | none => none
theorem indexE.of {t : TypeId} {p i v : V} {k : V → Prop} (h : indexE E t p i = some v) (hk : k v) : indexVC E t (es.st nt) p i k := by
  unfold indexE at h
  unfold indexVC
  split at h
  · rename_i ti hti
    rw [hti]
    split at h
    · rename_i j hj
      refine intE.of (k := fun j => _) hj ?_
      split at h
      · rename_i e hd
        simp only [hd]
        split at h
        · rename_i te b n sz f hte
          simp only [hte]
          cases hb : (Nat.beq sz te.size && (decide (0 ≤ j) && decide (j < n))) with
          | false => rw [hb] at h; cases h
          | true =>
            rw [hb] at h
            obtain ⟨h1, h2⟩ := Bool.and_eq_true_iff.1 hb
            rw [h1]
            have := some_eq h; subst this
            exact ⟨by simpa using h2, hk⟩
        · rename_i te c off n q sz hte
          simp only [hte]
          cases hb : (Nat.beq sz te.size && (decide (0 ≤ j) && decide (j < n))) with
          | false => rw [hb] at h; cases h
          | true =>
            rw [hb] at h
            obtain ⟨h1, h2⟩ := Bool.and_eq_true_iff.1 hb
            rw [h1]
            simp only [cond_true, fN_eq] at h
            have := some_eq h; subst this
            exact ⟨by simpa using h2, hk⟩
        · cases h
      · rename_i l e hd
        simp only [hd]
        split at h
        · rename_i te n sz f hte
          simp only [hte]
          cases hb : ((Nat.beq sz te.size && Nat.beq n l) && (decide (0 ≤ j) && decide (j < n))) with
          | false => rw [hb] at h; cases h
          | true =>
            rw [hb] at h
            obtain ⟨h1, h2⟩ := Bool.and_eq_true_iff.1 hb
            rw [h1]
            have := some_eq h; subst this
            exact ⟨by simpa using h2, hk⟩
        · rename_i te c off hte
          simp only [hte]
          cases hb : (decide (0 ≤ j) && decide (j < l)) with
          | false => rw [hb] at h; cases h
          | true =>
            rw [hb] at h
            simp only [cond_true, fN_eq] at h
            have := some_eq h; subst this
            exact ⟨by simpa using hb, hk⟩
        · cases h
      · cases h
    · cases h
  · cases h

/-! ### the others -/
def extractE (v : V) (i : Nat) : Option V := match v with
  | .tup vs => nth vs i
  | _ => none
theorem extractE.of {v u : V} {i : Nat} {k : V → Prop} (h : extractE v i = some u) (hk : k u) : extractVC v i k := by
  unfold extractE at h
  unfold extractVC
  split at h
  · simp only [h]; exact hk
  · cases h
def nilCheckE (v : V) : Option V := match v with
  | .loc c o => some (.loc c o)
  | .pp ds => some (.pp ds)
  | .re c i kk sz => some (.re c i kk sz)
  | _ => none
theorem nilCheckE.of {v u : V} {k : V → Prop} (h : nilCheckE v = some u) (hk : k u) : nilCheckVC v k := by
  unfold nilCheckE at h
  unfold nilCheckVC
  split at h <;> first
    | (have := some_eq h; subst this; exact hk)
    | cases h
def convE (E : Env) (src dst : TypeId) (v : V) : Option V := match E.T src, E.T dst with
  | some _, some td => match td.desc, v with
    | .int q, .d (.v (.int _ n)) => rI q (wrapE q n)
    | .string, .d (.v (.string b)) => some (.d (.v (.string b)))
    | _, _ => none
  | _, _ => none
theorem convE.of {src dst : TypeId} {v u : V} {k : V → Prop} (h : convE E src dst v = some u) (hk : k u) : convVC E src dst v k := by
  unfold convE at h
  unfold convVC
  split at h
  · rename_i h1 h2
    simp only [h1, h2]
    split at h
    · rename_i hd; simp only [hd]; rw [rI_eq, wrapE_eq] at h; have := some_eq h; subst this; exact hk
    · rename_i hd; simp only [hd]; have := some_eq h; subst this; exact hk
    · cases h
  · cases h
def minmaxE (b : Builtin) (u v : V) : Option V := match b, u, v with
  | .min, .d (.v (.int p x)), .d (.v (.int _ y)) => rI p (if y < x then y else x)
  | .max, .d (.v (.int p x)), .d (.v (.int _ y)) => rI p (if y > x then y else x)
  | _, _, _ => none
theorem minmaxE.of {b : Builtin} {u v x : V} {k : V → Prop} (h : minmaxE b u v = some x) (hk : k x) : minmaxVC b u v k := by
  unfold minmaxE at h
  unfold minmaxVC
  split at h
  · rw [rI_eq] at h; have := some_eq h; subst this; exact hk
  · rw [rI_eq] at h; have := some_eq h; subst this; exact hk
  · cases h
def partE (E : Env) (t : TypeId) (v : V) (i : Nat) : Option V := match E.T t with
  | some ti => match ti.desc, v with
    | .struct fs, .agg vs => match nth fs.toList i with
      | some fd => match E.T fd.type with
        | some tf => match dropE fd.offset vs with
          | some r => match takeE tf.size r with
            | some q => loadE' tf q
            | none => none
          | none => none
        | none => none
      | none => none
    | _, _ => none
  | none => none
theorem partE.of {t : TypeId} {v u : V} {i : Nat} {k : V → Prop} (h : partE E t v i = some u) (hk : k u) : partVC E t v i k := by
  unfold partE at h
  unfold partVC
  split at h
  · rename_i ti hti
    rw [hti]
    split at h
    · rename_i hd
      simp only [hd]
      split at h
      · rename_i fd hf
        simp only [hf]
        split at h
        · rename_i tf htf
          simp only [htf]
          split at h
          · rename_i r hr
            split at h
            · rename_i q hq; exact dropE.of hr (takeE.of hq (loadE'.of h hk))
            · cases h
          · cases h
        · cases h
      · cases h
    · cases h
  · cases h
def boundE (E : Env) (nt : Nat) (es : ES) (o : Option Operand) (d : Int) : Option Int := match o with
  | some x => match evE E nt es x with
    | some v => intE v
    | none => none
  | none => some d
theorem boundE.of {o : Option Operand} {d n : Int} {k : Int → Prop} (h : boundE E nt es o d = some n) (hk : k n) : boundK E (es.st nt) o d k := by
  unfold boundE at h
  unfold boundK
  split at h
  · split at h
    · rename_i v hv; exact evE.of hv (intE.of h hk)
    · cases h
  · have := some_eq h; subst this; exact hk

def sliceE (E : Env) (nt : Nat) (t : TypeId) (es : ES) (p : V) (lo hi mx : Option Operand) : Option V := match E.T t with
  | some ti => match mx with
    | none => match ti.desc, p with
      | .string, .d (.v (.string b)) => match boundE E nt es lo 0 with
        | some l => match boundE E nt es hi b.size with
          | some h => bif decide (0 ≤ l) && (decide (l ≤ h) && decide (h ≤ b.size)) then rS ((b.data.toList.drop l.toNat).take (h.toNat - l.toNat)) else none
          | none => none
        | none => none
      | .slice e, .d (.sl q n sz f) => match E.T e with
        | some te => match boundE E nt es lo 0 with
          | some l => match boundE E nt es hi n with
            | some h => bif Nat.beq sz te.size && (decide (0 ≤ l) && (decide (l ≤ h) && decide (h ≤ n))) then some (.d (.sl q (h.toNat - l.toNat) sz fun i => f (l.toNat + i))) else none
            | none => none
          | none => none
        | none => none
      | .slice e, .ms c off n q sz => match E.T e with
        | some te => match boundE E nt es lo 0 with
          | some l => match boundE E nt es hi n with
            | some h => bif Nat.beq sz te.size && (decide (0 ≤ l) && (decide (l ≤ h) && decide (h ≤ n))) then
                (bif (decide (l = 0) || decide (l < n)) then fN (off + l.toNat) fun x => fN (h.toNat - l.toNat) fun y => some (.ms c x y (q.map (· - l.toNat)) sz) else some (.d (.sl (some false) 0 sz fun _ => []))) else none
            | none => none
          | none => none
        | none => none
      | _, _ => none
    | some mo => match ti.desc, p with
      | .slice e, .d (.sl q n sz f) => match E.T e with
        | some te => match boundE E nt es lo 0 with
          | some l => match boundE E nt es hi n with
            | some h => match boundE E nt es (some mo) 0 with
              | some g => bif (Nat.beq sz te.size && hi.isSome) && (decide (0 ≤ l) && (decide (l ≤ h) && (decide (h ≤ g) && decide (g ≤ n)))) then
                  (bif decide (l = g) then some (.z q) else some (.d (.sl q (h.toNat - l.toNat) sz fun i => f (l.toNat + i)))) else none
              | none => none
            | none => none
          | none => none
        | none => none
      | .slice e, .ms c off n q sz => match E.T e with
        | some te => match boundE E nt es lo 0 with
          | some l => match boundE E nt es hi n with
            | some h => match boundE E nt es (some mo) 0 with
              | some g => bif (Nat.beq sz te.size && hi.isSome) && (decide (0 ≤ l) && (decide (l ≤ h) && (decide (h ≤ g) && decide (g ≤ n)))) then
                  (bif decide (l = g) then some (.z (some false)) else fN (off + l.toNat) fun x => fN (h.toNat - l.toNat) fun y => fN (g.toNat - l.toNat) fun z => some (.ms c x y (some z) sz)) else none
              | none => none
            | none => none
          | none => none
        | none => none
      | _, _ => none
  | none => none

theorem sub_list (b : ByteArray) (i j : Nat) : ofL ((b.data.toList.drop i).take (j - i)) = b.extract i j := by
  apply ByteArray.ext
  apply Array.ext'
  simp [ofL, ByteArray.data_extract, Array.toList_extract, List.extract_eq_take_drop]

theorem sliceE.of {t : TypeId} {p v : V} {lo hi mx : Option Operand} {k : V → Prop} (h : sliceE E nt t es p lo hi mx = some v) (hk : k v) : sliceVC E t (es.st nt) p lo hi mx k := by
  unfold sliceE at h
  unfold sliceVC
  split at h
  · rename_i ti hti
    rw [hti]
    split at h
    · split at h
      · rename_i b hd
        simp only [hd]
        split at h
        · rename_i l hl
          split at h
          · rename_i g hg
            refine boundE.of hl (boundE.of hg ?_)
            cases hb : (decide (0 ≤ l) && (decide (l ≤ g) && decide (g ≤ b.size))) with
            | false => rw [hb] at h; cases h
            | true =>
              rw [hb] at h
              simp only [cond_true, rS_eq, sub_list] at h
              have := some_eq h; subst this
              exact ⟨by simpa using hb, hk⟩
          · cases h
        · cases h
      · rename_i e q n sz f hd
        simp only [hd]
        split at h
        · rename_i te hte
          simp only [hte]
          split at h
          · rename_i l hl
            split at h
            · rename_i g hg
              cases hb : (Nat.beq sz te.size && (decide (0 ≤ l) && (decide (l ≤ g) && decide (g ≤ n)))) with
              | false => rw [hb] at h; cases h
              | true =>
                rw [hb] at h
                obtain ⟨h1, h2⟩ := Bool.and_eq_true_iff.1 hb
                rw [h1]
                refine boundE.of hl (boundE.of hg ?_)
                have := some_eq h; subst this
                exact ⟨by simpa using h2, hk⟩
            · cases h
          · cases h
        · cases h
      · rename_i e c off n q sz hd
        simp only [hd]
        split at h
        · rename_i te hte
          simp only [hte]
          split at h
          · rename_i l hl
            split at h
            · rename_i g hg
              cases hb : (Nat.beq sz te.size && (decide (0 ≤ l) && (decide (l ≤ g) && decide (g ≤ n)))) with
              | false => rw [hb] at h; cases h
              | true =>
                rw [hb] at h
                obtain ⟨h1, h2⟩ := Bool.and_eq_true_iff.1 hb
                rw [h1]
                refine boundE.of hl (boundE.of hg ?_)
                refine ⟨by simpa using h2, ?_⟩
                simp only [cond_true] at h
                cases hc : (decide (l = 0) || decide (l < n)) with
                | true => rw [hc] at h; simp only [cond_true, fN_eq] at h; have := some_eq h; subst this; exact hk
                | false => rw [hc] at h; have := some_eq h; subst this; exact hk
            · cases h
          · cases h
        · cases h
      · cases h
    · split at h
      · rename_i e q n sz f hd
        simp only [hd]
        split at h
        · rename_i te hte
          simp only [hte]
          split at h
          · rename_i l hl
            split at h
            · rename_i g hg
              split at h
              · rename_i j hj
                cases hb : ((Nat.beq sz te.size && hi.isSome) && (decide (0 ≤ l) && (decide (l ≤ g) && (decide (g ≤ j) && decide (j ≤ n))))) with
                | false => rw [hb] at h; cases h
                | true =>
                  rw [hb] at h
                  obtain ⟨h1, h2⟩ := Bool.and_eq_true_iff.1 hb
                  obtain ⟨h1, h3⟩ := Bool.and_eq_true_iff.1 h1
                  rw [h1]
                  refine boundE.of hl (boundE.of hg (boundE.of hj ?_))
                  have h2 : 0 ≤ l ∧ l ≤ g ∧ g ≤ j ∧ j ≤ n := by simpa using h2
                  refine ⟨⟨h2.1, h2.2.1, h2.2.2.1, h2.2.2.2, h3⟩, ?_⟩
                  simp only [cond_true] at h
                  cases hc : decide (l = j) with
                  | true => rw [hc] at h; have := some_eq h; subst this; exact hk
                  | false => rw [hc] at h; have := some_eq h; subst this; exact hk
              · cases h
            · cases h
          · cases h
        · cases h
      · rename_i e c off n q sz hd
        simp only [hd]
        split at h
        · rename_i te hte
          simp only [hte]
          split at h
          · rename_i l hl
            split at h
            · rename_i g hg
              split at h
              · rename_i j hj
                cases hb : ((Nat.beq sz te.size && hi.isSome) && (decide (0 ≤ l) && (decide (l ≤ g) && (decide (g ≤ j) && decide (j ≤ n))))) with
                | false => rw [hb] at h; cases h
                | true =>
                  rw [hb] at h
                  obtain ⟨h1, h2⟩ := Bool.and_eq_true_iff.1 hb
                  obtain ⟨h1, h3⟩ := Bool.and_eq_true_iff.1 h1
                  rw [h1]
                  refine boundE.of hl (boundE.of hg (boundE.of hj ?_))
                  have h2 : 0 ≤ l ∧ l ≤ g ∧ g ≤ j ∧ j ≤ n := by simpa using h2
                  refine ⟨⟨h2.1, h2.2.1, h2.2.2.1, h2.2.2.2, h3⟩, ?_⟩
                  simp only [cond_true] at h
                  cases hc : decide (l = j) with
                  | true => rw [hc] at h; have := some_eq h; subst this; exact hk
                  | false => rw [hc] at h; simp only [cond_false, fN_eq] at h; have := some_eq h; subst this; exact hk
              · cases h
            · cases h
          · cases h
        · cases h
      · cases h
  · cases h

def strIndexE (E : Env) (t : TypeId) (v i : V) : Option V := match E.T t with
  | some ti => match ti.desc, v with
    | .string, .d (.v (.string b)) => match intE i with
      | some j => match nth b.data.toList j.toNat with
        | some c => bif decide (0 ≤ j) then fN c.toNat fun n => some (.d (.v (.int .u8 (Int.ofNat n)))) else none
        | none => none
      | none => none
    | _, _ => none
  | none => none
theorem strIndexE.of {t : TypeId} {v i u : V} {k : V → Prop} (h : strIndexE E t v i = some u) (hk : k u) : strIndexVC E t v i k := by
  unfold strIndexE at h
  unfold strIndexVC
  split at h
  · rename_i ti hti
    rw [hti]
    split at h
    · rename_i b hd
      simp only [hd]
      split at h
      · rename_i j hj
        refine intE.of (k := fun j => _) hj ?_
        split at h
        · rename_i c hc
          rw [nth_eq] at hc
          cases hb : decide (0 ≤ j) with
          | false => rw [hb] at h; cases h
          | true =>
            rw [hb] at h
            simp only [cond_true, fN_eq] at h
            have h0 : 0 ≤ j := by simpa using hb
            have hlt : j.toNat < b.data.toList.length := (List.getElem?_eq_some_iff.1 hc).1
            have e : b.data.toList.getD j.toNat 0 = c := by rw [List.getD_eq_getElem?_getD, hc]; rfl
            refine ⟨⟨h0, by rw [size_list]; omega⟩, ?_⟩
            rw [e]
            have := some_eq h; subst this
            exact hk
        · cases h
      · cases h
    · cases h
  · cases h
def lenE (E : Env) (t : TypeId) (v : V) : Option V := match E.T t with
  | some ti => match ti.desc, v with
    | .slice _, .d (.sl _ n _ _) => fN n fun n => some (.d (.v (.int .i64 (Int.ofNat n))))
    | .slice _, .ms _ _ n _ _ => fN n fun n => some (.d (.v (.int .i64 (Int.ofNat n))))
    | .slice _, .z _ => some (.d (.v (.int .i64 (Int.ofNat 0))))
    | .string, .d (.v (.string b)) => fN b.data.toList.length fun n => some (.d (.v (.int .i64 (Int.ofNat n))))
    | _, _ => none
  | none => none
theorem lenE.of {t : TypeId} {v u : V} {k : V → Prop} (h : lenE E t v = some u) (hk : k u) : lenVC E t v k := by
  unfold lenE at h
  unfold lenVC
  split at h
  · rename_i ti hti
    rw [hti]
    split at h
    · rename_i hd; simp only [hd]; rw [fN_eq] at h; have := some_eq h; subst this; exact hk
    · rename_i hd; simp only [hd]; rw [fN_eq] at h; have := some_eq h; subst this; exact hk
    · rename_i hd; simp only [hd]; have := some_eq h; subst this; exact hk
    · rename_i hd; simp only [hd]; rw [fN_eq] at h; have := some_eq h; subst this; rw [size_list]; exact hk
    · cases h
  · cases h

end
end
end Go.E
