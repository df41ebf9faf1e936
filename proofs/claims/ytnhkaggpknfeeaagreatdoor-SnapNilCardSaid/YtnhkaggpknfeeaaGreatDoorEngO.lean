/-
  THE ENGINE, PART O: an operation's way where a round of a range over a function is among what may come (opX); an operation of a region; regions in order; how these are read inside a fence that bars nothing (Fw).
-/
import Derived.OrdersIn
import Derived.OrdersHeld
import Derived.TacticsIn
namespace Go.E
open Go

/-- A fence that bars nothing: of a function's frame (none), or of a round's (some). -/
def Fw (ro : Option Nat) : Fence := { fn := fun _ => True, depth := none, alive := false, round := ro }

theorem Fw.room (ro : Option Nat) (n : Nat) : (Fw ro).room n := fun _ h => by cases h
theorem Fw.one (ro : Option Nat) (n : Nat) : (Fw ro).depth.isSome = true → 1 ≤ n := fun h => by cases h

section
variable {P : Program} {o : Oper} {a : Act} {w : World} {n n' : Act → World → Prop} {Q : Exit → Act → World → Prop}

/-- What an operation leads to. -/
def upX (P : Program) (o : Oper) (a : Act) (next : Act → World → Prop) (Q : Exit → Act → World → Prop) (r : Result Next) : Prop := o.uponIn (Fw none) 0 P a next Q r
def opX (P : Program) (o : Oper) (a : Act) (w : World) (next : Act → World → Prop) (Q : Exit → Act → World → Prop) : Prop := upX P o a next Q ((execOp a.eval o).run P w)

theorem upX_mono {r : Result Next} (hn : ∀ a w, n a w → n' a w) (h : upX P o a n Q r) : upX P o a n' Q r := by
  unfold upX at *
  cases r with
  | halt x w' => cases x <;> exact h
  | ok x w' =>
    cases x with
    | value v => exact hn _ _ h
    | skip => exact hn _ _ h
    | defer d => exact hn _ _ h
    | enter f args =>
      refine ⟨h.1, CallsIn.mono h.2 fun e w'' he => ?_⟩
      cases e with
      | returned v => exact hn _ _ he
      | panicked c => exact he
      | outgrown => exact he
    | row r args => exact ⟨h.1, RowsIn.mono h.2 fun v w'' hv => hn _ _ hv⟩
    | round l f tmps assign body =>
      refine ⟨h.1, RoundIn.mono h.2 fun e w'' he => ?_⟩
      cases e with
      | returned v => exact hn _ _ he
      | panicked c => exact he
      | outgrown => exact he
    | _ => exact h
theorem opX_mono (h : opX P o a w n Q) (hn : ∀ a w, n a w → n' a w) : opX P o a w n' Q := upX_mono hn h

theorem opX_of (h : o.wp P a w n Q) : opX P o a w n Q := by
  unfold opX upX
  unfold Oper.wp at h
  cases hr : (execOp a.eval o).run P w with
  | halt x w' => rw [hr] at h; cases x <;> exact h
  | ok x w' =>
    rw [hr] at h
    cases x with
    | value v => exact h
    | skip => exact h
    | defer d => exact h
    | enter f args =>
      refine ⟨Fw.one _ _, (callsIn_wide (n := 0 - 1)).2 (Calls.mono h fun e w'' he => ?_)⟩
      cases e with
      | returned v => exact he
      | panicked c => exact he
      | outgrown => exact he
    | row r args =>
      refine ⟨Fw.one _ _, fun c cs _ => ?_⟩
      obtain ⟨v, w'', h1, h2⟩ := h c cs
      exact ⟨v, w'', h1, stepsIn_wide.2 h2⟩
    | _ => exact h.elim

theorem opX_in (ro : Option Nat) (hd : ro = Option.none ∨ ∀ c, o.op ≠ .defer c) (h : opX P o a w n Q) : o.wpIn (Fw ro) 0 P a w n Q := by
  refine ⟨fun _ _ => trivial, ?_⟩
  have e : o.semAt (Fw ro).round a.eval = execOp a.eval o := by
    rcases hd with rfl | hd
    · rfl
    · exact Oper.semAt_eq _ _ _ hd
  rw [e]
  unfold opX upX at h
  generalize (execOp a.eval o).run P w = r at *
  cases r with
  | halt x w' => cases x <;> exact h
  | ok x w' => cases x <;> exact h

/-! ### an operation of a region -/
variable {ops : Array Oper} {md : Region.Mode}

def wpOpX (P : Program) (ops : Array Oper) (Q : Exit → Act → World → Prop) (i : Nat) (K : Act → World → Prop) (a : Act) (w : World) : Prop := match ops[i]? with
  | none => K a w
  | some o => if Region.wanted o (yielded ops a.tmps) = true then opX P o a w K Q else K (a.put o.dst undef) w

theorem wpOpX_mono {i : Nat} (h : ∀ a w, n a w → n' a w) (hh : wpOpX P ops Q i n a w) : wpOpX P ops Q i n' a w := by
  unfold wpOpX at *
  split
  · rename_i ho; rw [ho] at hh; exact h _ _ hh
  · rename_i o ho
    rw [ho] at hh
    simp only at hh
    split
    · rename_i hw; rw [if_pos hw] at hh; exact opX_mono hh h
    · rename_i hw; rw [if_neg hw] at hh; exact h _ _ hh

def noDefer : Op → Bool
  | .defer _ => false
  | _ => true
theorem noDefer.out {o : Op} (h : noDefer o = true) : ∀ c, o ≠ .defer c := fun c e => by subst e; cases h
/-- In a round nothing is put off. -/
def deferOk (ro : Option Nat) (ops : Array Oper) : Prop := ro = none ∨ ∀ (i : Nat) (o : Oper), ops[i]? = some o → ∀ c, o.op ≠ .defer c
theorem deferOk.of {ro : Option Nat} (h : ro = none ∨ ops.toList.all (fun o => noDefer o.op) = true) : deferOk ro ops := by
  rcases h with h | h
  · exact .inl h
  · refine .inr fun i o hi => noDefer.out (List.all_eq_true.1 h o ?_)
    exact List.mem_of_getElem? (i := i) (by simpa using hi)
theorem deferOk.op {ro : Option Nat} (h : deferOk ro ops) {i : Nat} (hi : ops[i]? = some o) : ro = none ∨ ∀ c, o.op ≠ .defer c := h.imp id fun h => h i o hi

theorem wpOpX_in {ro : Option Nat} {i : Nat} (hd : deferOk ro ops) (h : wpOpX P ops Q i n a w) : wpOpIn (Fw ro) 0 P ops Q i n a w := by
  unfold wpOpX at h
  unfold wpOpIn
  cases ho : ops[i]? with
  | none => rw [ho] at h; exact h
  | some o =>
    rw [ho] at h
    simp only at h ⊢
    split
    · rename_i hw; rw [if_pos hw] at h; exact opX_in ro (hd.op ho) h
    · rename_i hw; rw [if_neg hw] at h; exact ⟨fun _ _ => trivial, h⟩

/-- One that yields its value may be taken ahead of one that is apart from it. -/
theorem upX_put {oi oj : Oper} {v : Value} {K : Act → World → Prop} {Y : Act → Prop} {r : Result Next} (hc : ∀ u, (a.put oi.dst v).put oj.dst u = (a.put oj.dst u).put oi.dst v)
    (hcd : ∀ d u, ({ a.put oi.dst v with defers := d :: (a.put oi.dst v).defers } : Act).put oj.dst u = (({ a with defers := d :: a.defers } : Act).put oj.dst u).put oi.dst v)
    (hY : ∀ u, Y (a.put oj.dst u)) (hYd : ∀ d u, Y (({ a with defers := d :: a.defers } : Act).put oj.dst u)) (hQ : ∀ c w, Q (.panic c) (a.put oi.dst v) w → Q (.panic c) a w)
    (h : upX P oj (a.put oi.dst v) K Q r) : upX P oj a (fun a' w' => Y a' ∧ K (a'.put oi.dst v) w') Q r := by
  unfold upX at *
  cases r with
  | halt x w' => cases x <;> first | exact hQ _ _ h | exact h
  | ok x w' =>
    have back : ∀ {u w'}, K ((a.put oi.dst v).put oj.dst u) w' → Y (a.put oj.dst u) ∧ K ((a.put oj.dst u).put oi.dst v) w' := fun {u w'} h => ⟨hY u, by rw [← hc u]; exact h⟩
    cases x with
    | value u => exact back h
    | skip => exact back h
    | defer d => exact ⟨hYd d _, by rw [← hcd d]; exact h⟩
    | enter f args =>
      refine ⟨h.1, CallsIn.mono h.2 fun e w'' he => ?_⟩
      cases e with
      | returned u => exact back he
      | panicked c => exact hQ _ _ he
      | outgrown => exact he
    | row r args => exact ⟨h.1, RowsIn.mono h.2 fun u w'' he => back he⟩
    | round l f tmps assign body =>
      refine ⟨h.1, RoundIn.mono h.2 fun e w'' he => ?_⟩
      cases e with
      | returned u => exact back he
      | panicked c => exact hQ _ _ he
      | outgrown => exact he
    | _ => exact h

theorem yields_op {S : World → Prop} {i : Nat} {v : Value} {K : Act → World → Prop} (hi : ops[i]? = some o) (hy : YieldsIf P ops S o v a) (hS : S w) (h : K (a.put o.dst v) w) : wpOpX P ops Q i K a w := by
  unfold wpOpX
  rw [hi]
  simp only
  rcases hy with ⟨hw, hv⟩ | ⟨hw, rfl⟩
  · rw [if_pos hw]
    unfold opX
    rw [hv w hS]
    exact h
  · rw [if_neg (by rw [hw]; simp)]
    exact h

theorem wpOpX_putIf {S : World → Prop} {j : Nat} {oi oj : Oper} {v : Value} (hj : ops[j]? = some oj) (hap : oi.apart ops oj = true)
    (hsi : ∀ cs b, oi.op ≠ .select cs b) (hsj : ∀ cs b, oj.op ≠ .select cs b)
    (hQ : ∀ c a w, Q (.panic c) (a.put oi.dst v) w → Q (.panic c) a w) {K : Act → World → Prop}
    (hy : YieldsIf P ops S oi v a) (h : wpOpX P ops Q j K (a.put oi.dst v) w) :
    wpOpX P ops Q j (fun a' w' => YieldsIf P ops S oi v a' ∧ K (a'.put oi.dst v) w') a w := by
  obtain ⟨h1, h2, h3⟩ := Oper.apart_spec hap
  have keep : ∀ (a : Act), YieldsIf P ops S oi v a → ∀ u, YieldsIf P ops S oi v (a.put oj.dst u) := fun a hy u =>
    hy.of_same (execOp_put oi hsi a oj.dst u h3) (wanted_put oi a oj.dst u h3)
  unfold wpOpX at *
  rw [hj] at h ⊢
  simp only at h ⊢
  rw [wanted_put oj a oi.dst v h1] at h
  split
  · rename_i hw
    rw [if_pos hw] at h
    unfold opX at h ⊢
    rw [execOp_put oj hsj a oi.dst v h1] at h
    refine upX_put (fun u => Act.put_comm a v u h2) (fun d u => ?_) (fun u => keep a hy u) (fun d u => keep { a with defers := d :: a.defers } (hy.of_same rfl rfl) u) (fun c w => hQ c a w) h
    rw [← Act.put_comm { a with defers := d :: a.defers } v u h2]
    congr 1
    cases oi.dst <;> rfl
  · rename_i hw
    rw [if_neg hw] at h
    exact ⟨keep a hy _, by rw [← Act.put_comm a v undef h2]; exact h⟩

/-! ### regions in the text's order -/
def wpListX (P : Program) (ops : Array Oper) (Q : Exit → Act → World → Prop) : List Oper → Act → World → Prop
  | [], a, w => Q .normal a w
  | o :: rest, a, w => if Region.wanted o (yielded ops a.tmps) = true then opX P o a w (wpListX P ops Q rest) Q else wpListX P ops Q rest (a.put o.dst undef) w

theorem wpListX_in {ro : Option Nat} : ∀ {l : List Oper} {a : Act} {w : World}, (ro = none ∨ ∀ o ∈ l, ∀ c, o.op ≠ .defer c) → wpListX P ops Q l a w → wpListIn (Fw ro) 0 P ops Q l a w
  | [], _, _, _, h => h
  | o :: rest, a, w, hd, h => by
    unfold wpListX at h
    unfold wpListIn
    have hd' : ro = none ∨ ∀ o ∈ rest, ∀ c, o.op ≠ .defer c := hd.imp id fun h o ho => h o (List.mem_cons_of_mem _ ho)
    split
    · rename_i hw
      rw [if_pos hw] at h
      exact opX_in ro (hd.imp id fun h => h o List.mem_cons_self) (opX_mono h fun a w h => wpListX_in hd' h)
    · rename_i hw
      rw [if_neg hw] at h
      exact ⟨fun _ _ => trivial, wpListX_in hd' h⟩

theorem wpX_region {ro : Option Nat} {id : Nat} (hd : deferOk ro ops) (h : wpListX P ops Q ops.toList a w) : (Code.region id ops false).wpIn (Fw ro) 0 P Q a w :=
  wpIn_region_list (wpListX_in (Or.imp_right (fun h o ho => by
    obtain ⟨i, hi⟩ := List.getElem?_of_mem ho
    exact h i o (by simpa using hi)) hd) h)

end
end Go.E
