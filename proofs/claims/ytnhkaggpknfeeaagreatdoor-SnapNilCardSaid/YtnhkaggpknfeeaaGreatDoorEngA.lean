/-
  THE ENGINE, PART A: append.
-/
import Derived.Test.YtnhkaggpknfeeaaGreatDoorEng7
import Derived.Lib.AppendStr
namespace Go.E
open Go

section
variable {E : Env} {nt : Nat} {w0 : World} {S0 W0 : Nat → Prop} {m : Nat} {ρ0 ρ : Nat → Bk} {S : Nat → Prop} {w w' : World} {s : St} {a : Act}

/-- What a chunk's old number is where a new one takes its block. -/
theorem Inv.drop {c : Nat} (inv : Inv E nt w0 S0 W0 m ρ0 ρ S w s a) : Inv E nt w0 S0 W0 m ρ0 ρ S w { s with hp := s.hp.set c none } a := by
  have hat : ∀ (c' : Nat) (ch : Ch), (s.hp.set c none)[c']? = some (some ch) → s.hp[c']? = some (some ch) := by
    intro c' ch h
    rw [List.getElem?_set] at h
    split at h
    · split at h <;> simp at h
    · exact h
  refine { inv with slots := ?_, heap := ?_, le := by simpa using inv.le, new := fun c' ch h2 => inv.new c' ch (hat _ _ h2), defers := by simpa using inv.defers }
  · intro i v hv
    obtain ⟨x, hx, hr⟩ := inv.slots i v hv
    exact ⟨x, hx, by simpa using hr⟩
  · refine ⟨fun c' ch h => by simpa using inv.heap.at_ _ _ (hat _ _ h), fun c' ch h => inv.heap.out _ _ (hat _ _ h), fun c1 c2 ch1 ch2 h1 h2 e => inv.heap.inj _ _ _ _ (hat _ _ h1) (hat _ _ h2) e, inv.heap.old⟩

/-- The world turns in a block that is no chunk's any more (or in none), and that S does not name; a new chunk's block is that block, or a new one. -/
theorem Inv.onto {ch : Ch} {b : Bk} {ob : Option Nat} (inv : Inv E nt w0 S0 W0 m ρ0 ρ S w s a) (ho : w'.os = w.os) (ht : w'.tape = w.tape) (hu : w'.output = w.output) (hz : w.heap.size ≤ w'.heap.size)
    (hb : ∀ k, k < w.heap.size → ob ≠ some k → w'.heap[k]? = w.heap[k]?)
    (hob : ∀ k, ob = some k → ¬ S k ∧ (∀ c ch, s.hp[c]? = some (some ch) → (ρ c).b ≠ k) ∧ (w0.heap.size ≤ k ∨ W0 k))
    (hbn : b.b = w.heap.size ∨ w.heap.size ≤ b.b ∨ ob = some b.b)
    (hn : HC (more ρ s.hp.length b) (s.hp.length + 1) S w' s.hp.length ch) :
    Inv E nt w0 S0 W0 m ρ0 (more ρ s.hp.length b) S w' (s.push ch) a := by
  have hS : Same S w w' := fun k h => hb k (inv.heap.old k h) fun e => (hob k e).1 h
  have hρ : ∀ c, c < s.hp.length → more ρ s.hp.length b c = ρ c := fun c h => more_old h
  have hat : ∀ c' ch1, (s.hp ++ [some ch])[c']? = some (some ch1) → (c' < s.hp.length ∧ s.hp[c']? = some (some ch1)) ∨ (c' = s.hp.length ∧ ch1 = ch) := by
    intro c' ch1 h
    rw [List.getElem?_append] at h
    split at h
    · exact .inl ⟨by assumption, h⟩
    · rename_i e
      rw [List.getElem?_singleton] at h
      split at h
      · injection h with h; injection h with h
        exact .inr ⟨by omega, h.symm⟩
      · simp at h
  have hblk : ∀ c ch1, s.hp[c]? = some (some ch1) → w'.heap[(ρ c).b]? = w.heap[(ρ c).b]? := fun c ch1 h => hb _ (inv.heap.at_ _ _ h).lt fun e => (hob _ e).2.1 c ch1 h rfl
  have hne : ∀ c ch1, s.hp[c]? = some (some ch1) → (ρ c).b ≠ b.b := fun c ch1 h e => by
    have hlt := (inv.heap.at_ _ _ h).lt
    rcases hbn with h' | h' | h'
    · omega
    · omega
    · exact (hob _ h').2.1 c ch1 h e
  refine { inv with slots := ?_, heap := ?_, hist := ?_, par := ?_, le := by simp [St.push]; have := inv.le; omega, new := ?_, glob := ?_, defers := inv.defers.mono (by simp [St.push]) hρ (fun _ h => h) hS }
  · intro i v hv
    obtain ⟨x, hx, hr⟩ := inv.slots i v hv
    exact ⟨x, hx, hr.mono (by simp [St.push]) hρ (fun _ h => h) hS⟩
  · refine ⟨?_, ?_, ?_, fun k h => by have := inv.heap.old k h; omega⟩
    · intro c' ch1 h
      have hl : (s.push ch).hp.length = s.hp.length + 1 := by simp [St.push]
      rw [hl]
      rcases hat c' ch1 h with ⟨hlt, h⟩ | ⟨rfl, rfl⟩
      · exact (inv.heap.at_ c' ch1 h).mono (by omega) hρ (fun _ h => h) hS (hρ _ hlt) (hblk _ _ h)
      · exact hn
    · intro c' ch1 h
      rcases hat c' ch1 h with ⟨hlt, h⟩ | ⟨rfl, rfl⟩
      · rw [hρ _ hlt]; exact inv.heap.out _ _ h
      · rw [more_new]; intro h
        have := inv.heap.old _ h
        rcases hbn with h' | h' | h'
        · omega
        · omega
        · exact (hob _ h').1 h
    · intro c1 c2 ch1 ch2 h1 h2 e
      rcases hat c1 ch1 h1 with ⟨hl1, g1⟩ | ⟨rfl, rfl⟩ <;> rcases hat c2 ch2 h2 with ⟨hl2, g2⟩ | ⟨rfl, rfl⟩
      · rw [hρ _ hl1, hρ _ hl2] at e; exact inv.heap.inj _ _ _ _ g1 g2 e
      · rw [hρ _ hl1, more_new] at e; exact absurd e (hne _ _ g1)
      · rw [hρ _ hl2, more_new] at e; exact absurd e.symm (hne _ _ g2)
      · rfl
  · have h := inv.hist
    refine ⟨ho.trans h.os, ht.trans h.tape, hu.trans h.output, Nat.le_trans h.size hz, fun k hk0 hnek => ?_, h.per⟩
    rw [← h.blk k hk0 hnek]
    refine hb k (by have := h.size; omega) fun e => ?_
    rcases (hob k e).2.2 with h' | h'
    · omega
    · exact hnek h'
  · intro c hc
    rw [hρ c (by have := inv.le; omega)]; exact inv.par c hc
  · intro c' ch1 h
    rcases hat c' ch1 h with ⟨hlt, h⟩ | ⟨rfl, rfl⟩
    · rw [hρ _ hlt]; exact inv.new _ _ h
    · rw [more_new]
      rcases hbn with h' | h' | h'
      · exact .inl (by rw [h']; exact inv.hist.size)
      · exact .inl (Nat.le_trans inv.hist.size h')
      · exact (hob _ h').2.2
  · intro g ds hg
    exact (inv.glob g ds hg).mono (Nat.le_refl _) (fun _ h => absurd h (by omega)) (fun _ h => h) hS

/-- What is appended: so many elements. -/
def srcK (s : St) (v : V) (sz : Nat) (k : Nat → (Nat → List V) → Prop) : Prop := match v with
  | .d (.sl _ n sz' f) => bif Nat.beq sz' sz then k n (fun i => (f i).map V.d) else n = 0 ∧ k 0 (fun _ => [])
  | .z _ => k 0 (fun _ => [])
  | .ms c off n _ sz' => match nth s.hp c with
    | some (some (.rows _ nn _ sz'' f)) => bif Nat.beq sz' sz && Nat.beq sz'' sz then off + n ≤ nn ∧ k n (fun i => f (off + i)) else False
    | _ => False
  | _ => False

/-- Elements of f as cells. -/
structure RowsAt (ρ : Nat → Bk) (N : Nat) (S : Nat → Prop) (w : World) (n sz : Nat) (f : Nat → List V) (cs : List Value) : Prop where
  len : cs.length = n * sz
  el : ∀ i, i < n → (f i).length = sz ∧ ∀ k d, (f i)[k]? = some d → ∃ b, cs[i * sz + k]? = some b ∧ RV ρ N S w d b
  ok : ∀ x ∈ cs, cellVal x = true

theorem RowsAt.zero {ρ N sz} {f : Nat → List V} : RowsAt ρ N S w 0 sz f [] := ⟨by simp, fun i hi => absurd hi (by omega), by simp⟩

theorem srcK.out {v : V} {x : Value} {sz : Nat} {k : Nat → (Nat → List V) → Prop} (inv : Inv E nt w0 S0 W0 m ρ0 ρ S w s a) (h : srcK s v sz k) (hsz : 0 < sz) (hr : RV ρ s.hp.length S w v x) :
    ∃ n f, k n f ∧ ((x = .slice none 0 0 ∧ n = 0) ∨ ∃ ad cap cs, x = .slice (some ad) n cap ∧ RowsAt ρ s.hp.length S w n sz f cs ∧ ∀ j u, cs[j]? = some u → w.cell? (ad.add j) = some u) := by
  unfold srcK at h
  split at h
  · rename_i b n sz' f
    cases hz : Nat.beq sz' sz with
    | true =>
      rw [hz] at h
      have hz' := Nat.eq_of_beq_eq_true hz
      subst hz'
      refine ⟨n, _, h, ?_⟩
      cases hr with | d hr =>
      cases hr with
      | nil _ => exact .inl ⟨rfl, rfl⟩
      | e _ => exact .inr ⟨_, _, [], rfl, .zero, by simp⟩
      | sl g hq hb hn hl hc hd =>
        rename_i bk off cap
        refine .inr ⟨⟨bk, off, none⟩, cap, (List.range (n * sz')).map (fun j => g (j / sz') (j % sz')), rfl, ⟨by simp, fun i hi => ⟨by simpa using hl i hi, fun k d hk => ?_⟩, fun x hx => ?_⟩, fun j u hj => ?_⟩
        · rw [List.getElem?_map] at hk
          cases hq' : (f i)[k]? with
          | none => rw [hq'] at hk; simp at hk
          | some d0 =>
          rw [hq'] at hk; simp at hk; subst hk
          have hk' : k < sz' := by rw [← hl i hi]; exact (List.getElem?_eq_some_iff.1 hq').1
          have hlt : i * sz' + k < n * sz' := by
            have : i * sz' + sz' ≤ n * sz' := by rw [← Nat.succ_mul]; exact Nat.mul_le_mul_right _ hi
            omega
          refine ⟨g i k, ?_, .d (hd i k d0 hi hq')⟩
          rw [List.getElem?_map, List.getElem?_range hlt]
          have e1 : (i * sz' + k) / sz' = i := by rw [Nat.add_comm, Nat.add_mul_div_right _ _ hsz, Nat.div_eq_of_lt hk']; omega
          have e2 : (i * sz' + k) % sz' = k := by rw [Nat.add_comm, Nat.add_mul_mod_self_right, Nat.mod_eq_of_lt hk']
          simp [e1, e2]
        · obtain ⟨j, hj, rfl⟩ := List.mem_map.1 hx
          have hj' := List.mem_range.1 hj
          have h1 : j / sz' < n := (Nat.div_lt_iff_lt_mul hsz).2 hj'
          have h2 : j % sz' < sz' := Nat.mod_lt _ hsz
          have h3 : j % sz' < (f (j / sz')).length := by rw [hl _ h1]; exact h2
          exact (hd _ _ _ h1 (List.getElem?_eq_getElem h3)).cellVal
        · rw [List.getElem?_map] at hj
          by_cases hjl : j < n * sz'
          · rw [List.getElem?_range hjl] at hj
            simp at hj; subst hj
            have h1 : j / sz' < n := (Nat.div_lt_iff_lt_mul hsz).2 hjl
            have h2 : j % sz' < sz' := Nat.mod_lt _ hsz
            rw [Addr.add_at]
            have := hc _ _ h1 h2
            rwa [show j / sz' * sz' + j % sz' = j from by rw [Nat.mul_comm]; exact Nat.div_add_mod j sz'] at this
          · rw [List.getElem?_eq_none (by simp; omega)] at hj; simp at hj
    | false =>
      rw [hz] at h
      obtain ⟨hn, hk⟩ := (show n = 0 ∧ k 0 _ from h)
      subst hn
      refine ⟨0, _, hk, ?_⟩
      cases hr with | d hr =>
      cases hr with
      | nil _ => exact .inl ⟨rfl, rfl⟩
      | e _ => exact .inr ⟨_, _, [], rfl, .zero, by simp⟩
      | sl g _ hb hn hl hc hd => exact .inr ⟨_, _, [], rfl, .zero, by simp⟩
  · refine ⟨0, _, h, ?_⟩
    cases hr with
    | z0 _ => exact .inl ⟨rfl, rfl⟩
    | z1 _ => exact .inr ⟨_, _, [], rfl, .zero, by simp⟩
  · rename_i c off n cap sz'
    rw [nth_eq] at h
    split at h
    · rename_i ty nn ncap sz'' f hc
      cases hz : (Nat.beq sz' sz && Nat.beq sz'' sz) with
      | false => rw [hz] at h; exact h.elim
      | true =>
        rw [hz] at h
        obtain ⟨ha, hb⟩ := Bool.and_eq_true_iff.1 hz
        have e1 := Nat.eq_of_beq_eq_true ha
        have e2 := Nat.eq_of_beq_eq_true hb
        subst e1; subst e2
        obtain ⟨h1, h⟩ := (show off + n ≤ nn ∧ _ from h)
        refine ⟨n, _, h, .inr ?_⟩
        cases hr with | ms hcl hn hm =>
        obtain ⟨xs, g1, g2, g3⟩ := inv.heap.at_ c _ hc
        have hle : (off + n) * sz'' ≤ xs.length := by rw [g2.2.2.1]; exact Nat.mul_le_mul_right _ (Nat.le_trans h1 g2.1)
        have hle' : off * sz'' + n * sz'' ≤ xs.length := by rw [← Nat.add_mul]; exact hle
        refine ⟨⟨(ρ c).b, off * sz'', none⟩, _, (xs.drop (off * sz'')).take (n * sz''), rfl, ⟨by simp; omega, fun i hi => ⟨(g3 _ (by omega)).1, fun k d hk => ?_⟩, fun x hx => g2.2.2.2.2 x (List.mem_of_mem_drop (List.mem_of_mem_take hx))⟩, fun j u hj => ?_⟩
        · have hk' : k < sz'' := by rw [← (g3 (off + i) (by omega)).1]; exact (List.getElem?_eq_some_iff.1 hk).1
          have hlt : i * sz'' + k < n * sz'' := by
            have : i * sz'' + sz'' ≤ n * sz'' := by rw [← Nat.succ_mul]; exact Nat.mul_le_mul_right _ hi
            omega
          obtain ⟨b, h4, h5⟩ := (g3 (off + i) (by omega)).2 k d hk
          refine ⟨b, ?_, h5⟩
          rw [List.getElem?_take, if_pos hlt, List.getElem?_drop, ← h4]
          congr 1; rw [Nat.add_mul]; omega
        · rw [List.getElem?_take] at hj
          split at hj
          · rw [List.getElem?_drop] at hj
            rw [Addr.add_at]
            simp only [World.cell?, g1]
            simpa using hj
          · simp at hj
    · exact h.elim
  · exact h.elim

/-- Of so many: none, or some. -/
def nsel (n : Nat) (p q : Prop) : Prop := match n with
  | 0 => p
  | _ + 1 => q
theorem nsel.out {n : Nat} {p q : Prop} (h : nsel n p q) : (n = 0 ∧ p) ∨ (0 < n ∧ q) := by
  cases n with
  | zero => exact .inl ⟨rfl, h⟩
  | succ n => exact .inr ⟨by omega, h⟩

/-- Elements in a new block. -/
def newApp (e : TypeId) (te : TI) (n : Nat) (g : Nat → List V) (s : St) (k : V → St → Prop) : Prop :=
  (n ≤ 9223372036854775807 ∧ n * te.bytes ≤ 140737488355328) ∧ newC s (.rows e n none te.size g) fun N s' => k (.ms N 0 n none te.size) s'

/-- What is appended, a string's bytes among it. -/
def srcTK (E : Env) (t t' : TypeId) (s : St) (v : V) (sz : Nat) (k : Nat → (Nat → List V) → Prop) : Prop := bif Nat.beq t t' then srcK s v sz k else (match E.T t' with
  | some ti => match ti.desc with
    | .string => match v with
      | .d (.v (.string b)) => bif Nat.beq sz 1 then k b.size (fun i => [.d (.v (.int .u8 ((b.data.toList.getD i 0).toNat : Int)))]) else False
      | _ => False
    | _ => False
  | none => False)

def appendVC (E : Env) (ts : List TypeId) (dst src : V) (s : St) (k : V → St → Prop) : Prop := match ts with
  | [t, t'] => match E.T t with
    | some ti => match ti.desc with
      | .slice e => match E.T e with
        | some te => bif Nat.beq te.size 0 then False else srcTK E t t' s src te.size fun n g => match dst with
          | .d (.sl (some true) 0 _ _) => nsel n (k dst s) (newApp e te n g s k)
          | .z _ => nsel n (k dst s) (newApp e te n g s k)
          | .ms c 0 n0 none sz => match nth s.hp c with
            | some (some (.rows ty nn _ sz' f)) => bif (Nat.beq sz te.size && (Nat.beq sz' te.size && Nat.beq ty e)) then
                (n0 ≤ nn ∧ n0 + n ≤ 9223372036854775807 ∧ (n0 + n) * te.bytes ≤ 140737488355328) ∧
                  setK c [none] s.hp fun hp1 => newC { s with hp := hp1 } (.rows e (n0 + n) none te.size fun i => bif Nat.blt i n0 then f i else g (i - n0)) fun N s' => k (.ms N 0 (n0 + n) none te.size) s'
              else False
            | _ => False
          | _ => False
        | none => False
      | _ => False
    | none => False
  | _ => False

theorem RowsAt.mono {ρ ρ' : Nat → Bk} {N N' : Nat} {S' : Nat → Prop} {n sz : Nat} {f : Nat → List V} {cs : List Value} (h : RowsAt ρ N S w n sz f cs) (hN : N ≤ N') (hρ : ∀ c, c < N → ρ' c = ρ c) (hS : ∀ b, S b → S' b) (hw : Same S w w') : RowsAt ρ' N' S' w' n sz f cs :=
  ⟨h.len, fun i hi => ⟨(h.el i hi).1, fun k d hk => by obtain ⟨b, h1, h2⟩ := (h.el i hi).2 k d hk; exact ⟨b, h1, h2.mono hN hρ hS hw⟩⟩, h.ok⟩

theorem blt_t {i n : Nat} (h : i < n) : Nat.blt i n = true := by simpa [Nat.blt_eq] using h
theorem blt_f {i n : Nat} (h : ¬ i < n) : Nat.blt i n = false := by
  cases hq : Nat.blt i n with
  | false => rfl
  | true => exact absurd (by simpa [Nat.blt_eq] using hq) h

theorem RowsAt.app {ρ : Nat → Bk} {N : Nat} {n n0 sz : Nat} {f g : Nat → List V} {cs ds : List Value} (h : RowsAt ρ N S w n0 sz f cs) (k : RowsAt ρ N S w n sz g ds) : RowsAt ρ N S w (n0 + n) sz (fun i => bif Nat.blt i n0 then f i else g (i - n0)) (cs ++ ds) := by
  refine ⟨by rw [List.length_append, h.len, k.len, Nat.add_mul], fun i hi => ?_, fun x hx => ?_⟩
  · by_cases e : i < n0
    · simp only [blt_t e, cond_true]
      refine ⟨(h.el i e).1, fun q d hd => ?_⟩
      obtain ⟨b, h1, h2⟩ := (h.el i e).2 q d hd
      exact ⟨b, by rw [List.getElem?_append_left (List.getElem?_eq_some_iff.1 h1).1]; exact h1, h2⟩
    · simp only [blt_f e, cond_false]
      refine ⟨(k.el (i - n0) (by omega)).1, fun q d hd => ?_⟩
      obtain ⟨b, h1, h2⟩ := (k.el (i - n0) (by omega)).2 q d hd
      have e2 : i * sz = n0 * sz + (i - n0) * sz := by rw [← Nat.add_mul]; congr 1; omega
      exact ⟨b, by rw [List.getElem?_append_right (by rw [h.len]; omega), ← h1, h.len]; congr 1; omega, h2⟩
  · rcases List.mem_append.1 hx with hx | hx
    · exact h.ok x hx
    · exact k.ok x hx

/-- RowsAt in a chunk, whatever lies behind them. -/
theorem HC.of_rows {N n sz c : Nat} {ty : TypeId} {f : Nat → List V} {cs xs : List Value} (h : w.heap[(ρ c).b]? = some (.cells xs.toArray ty (0, 0))) (hr : RowsAt ρ N S w n sz f cs) (hp : xs.take (n * sz) = cs) (hcap : n ≤ (ρ c).cap) (hm : (ρ c).cap ≤ maxLen)
    (hl : xs.length = (ρ c).cap * sz) (hok : ∀ x ∈ xs, cellVal x = true) : HC ρ N S w c (.rows ty n none sz f) := by
  refine ⟨xs, h, ⟨hcap, hm, hl, (fun k hk => by cases hk), hok⟩, fun i hi => ⟨(hr.el i hi).1, fun k d hk => ?_⟩⟩
  obtain ⟨b, h1, h2⟩ := (hr.el i hi).2 k d hk
  refine ⟨b, ?_, h2⟩
  rw [← hp, List.getElem?_take] at h1
  split at h1
  · exact h1
  · simp at h1

theorem zeroCells_ok {z : Array Value} (hz : ∀ x ∈ z.toList, cellVal x = true) (h0 : 0 < z.size) (n : Nat) : ∀ x ∈ (Builtin.zeroCells z n).toList, cellVal x = true := by
  intro x hx
  simp only [Builtin.zeroCells, Array.toList_map, Array.toList_range, List.mem_map, List.mem_range] at hx
  obtain ⟨b, _, rfl⟩ := hx
  have hlt : b % z.size < z.size := Nat.mod_lt _ h0
  have e : z[b % z.size]! = z[b % z.size] := by simp [hlt]
  rw [e]
  exact hz _ (by simp)

theorem run_append_none {P : Program} (t ty e : TypeId) (ti : TI) (hu : P.underlying t = some (.slice e)) (hT : TOk P e ti) (q : Option Addr) (n0 cap : Nat) (y : Value) (hn : n0 ≤ cap)
    (hy : y = .slice none 0 0 ∨ ∃ ad c, y = .slice (some ad) 0 c) (w : World) : (Builtin.append_ #[t, t] ty #[.slice q n0 cap, y]).run P w = .ok (.slice q n0 cap) w := by
  obtain ⟨i, z, h1, h2, _⟩ := hT.inf
  rcases hy with rfl | ⟨ad, c, rfl⟩ <;> cases q <;>
    simp [Builtin.append_, run_underlying hu, sizeOf, typeInfo, h1, Builtin.lenOf, Builtin.firstCells, loadCells, loadCellsFrom, hn, storeCells]

/-- What appending y comes to: n elements, the cells cs. -/
structure Src (P : Program) (w : World) (t t' ty' e : TypeId) (i : TypeInfo) (z y : Value) (n : Nat) (cs : List Value) : Prop where
  len : (Builtin.lenOf y).run P w = .ok n w
  first : ∀ k, k ≤ n → (Builtin.firstCells i.size k y).run P w = .ok (cs.take (k * i.size)).toArray w
  none_ : n = 0 → ∀ (q : Option Addr) (n0 cap : Nat), n0 ≤ cap → (Builtin.append_ #[t, t'] ty' #[.slice q n0 cap, y]).run P w = .ok (.slice q n0 cap) w
  nil : 0 < n → (n : Int) ≤ 9223372036854775807 → n * i.bytes ≤ 281474976710656 → (Builtin.append_ #[t, t'] ty' #[.slice none 0 0, y]).run P w =
      .ok (.slice (some ⟨w.heap.size, 0, none⟩) n (grownCap w n 0 e)) (w.drew.alloc (.cells (cs.toArray ++ Builtin.zeroCells z.cells (grownCap w n 0 e - n)) e))
  grow : 0 < n → ∀ (b : Addr) (sLen sCap : Nat) (olds : List Value), olds.length = sLen * i.size → (∀ (j : Nat) v, olds[j]? = some v → w.cell? (b.add j) = some v) → sCap < sLen + n → ((sLen + n : Nat) : Int) ≤ 9223372036854775807 → Builtin.nextslicecap (sLen + n) sCap * i.bytes ≤ 281474976710656 →
    (Builtin.append_ #[t, t'] ty' #[.slice (some b) sLen sCap, y]).run P w = .ok (.slice (some ⟨w.heap.size, 0, none⟩) (sLen + n) (grownCap w (sLen + n) sCap e))
        (w.drew.alloc (.cells (olds.toArray ++ cs.toArray ++ Builtin.zeroCells z.cells (grownCap w (sLen + n) sCap e - (sLen + n))) e))
  room : 0 < n → ∀ (g sLen sCap : Nat) (cur : Array Value), w.heap[g]? = some (.cells cur e (0, 0)) → sLen + n ≤ sCap → sLen * i.size + cs.length ≤ cur.size →
    (Builtin.append_ #[t, t'] ty' #[.slice (some ⟨g, 0, none⟩) sLen sCap, y]).run P w = .ok (.slice (some ⟨g, 0, none⟩) (sLen + n) sCap) (w.setRow g (cur.toList.take (sLen * i.size) ++ cs ++ cur.toList.drop (sLen * i.size + cs.length)).toArray)

theorem srcTK.out {t t' ty' e : TypeId} {te : TI} {i : TypeInfo} {z : Value} {v : V} {x : Value} {k : Nat → (Nat → List V) → Prop} (hE : E.Ok) (inv : Inv E nt w0 S0 W0 m ρ0 ρ S w s a) (h : srcTK E t t' s v te.size k) (hsz : 0 < te.size) (hr : RV ρ s.hp.length S w v x)
    (hu : E.P.underlying t = some (.slice e)) (hT : TOk E.P e te) (i1 : E.P.info? e = some i) (i2 : i.size = te.size) (i4 : i.zero = some z) :
    ∃ n f cs, k n f ∧ RowsAt ρ s.hp.length S w n te.size f cs ∧ Src E.P w t t' ty' e i z x n cs := by
  unfold srcTK at h
  cases htt : Nat.beq t t' with
  | true =>
    rw [htt] at h
    have := Nat.eq_of_beq_eq_true htt
    subst this
    obtain ⟨n, f, hk, hs⟩ := srcK.out inv h hsz hr
    rcases hs with ⟨rfl, hn⟩ | ⟨ad, c, cs, rfl, hrows, hcells⟩
    · subst hn
      exact ⟨0, f, [], hk, .zero, ⟨by simp [Builtin.lenOf], fun k hk => by simp [Builtin.firstCells], fun _ q n0 cap hc => run_append_none t ty' e te hu hT q n0 cap _ hc (.inl rfl) w, fun h => absurd h (by omega), fun h => absurd h (by omega), fun h => absurd h (by omega)⟩⟩
    · refine ⟨n, f, cs, hk, hrows, ⟨by simp [Builtin.lenOf], fun k hk => ?_, fun hn q n0 cap hc => run_append_none t ty' e te hu hT q n0 cap _ hc (.inr ⟨_, _, by rw [hn]⟩) w, fun h0 h1 h2 => ?_, fun h0 b sLen sCap olds o1 o2 o3 o4 o5 => ?_, fun h0 g sLen sCap cur o1 o2 o3 => ?_⟩⟩
      · refine run_firstCells_some (P := E.P) w i.size k ad n c _ ?_ fun j v hj => ?_
        · rw [List.length_take, hrows.len, i2]
          exact Nat.min_eq_left (Nat.mul_le_mul_right _ hk)
        · rw [List.getElem?_take] at hj
          split at hj
          · exact hcells j v hj
          · cases hj
      · exact run_append_nil (P := E.P) w t ty' e i z hu i1 i4 ad n c cs (by rw [i2]; exact hrows.len) hcells h0 h1 h2
      · exact run_append_grow (P := E.P) w t ty' e i z hu i1 i4 b sLen sCap olds o1 o2 ad n c cs (by rw [i2]; exact hrows.len) hcells o3 o4 o5
      · exact run_append_room (P := E.P) w t ty' e i hu i1 g sLen sCap cur o1 ad n c cs (by rw [i2]; exact hrows.len) hcells hrows.ok o2 o3
  | false =>
    rw [htt] at h
    simp only [cond_false] at h
    split at h
    · rename_i ti hti
      have hus := und_eq hE hti
      split at h
      · rename_i hd
        rw [hd] at hus
        split at h
        · rename_i b
          cases hz : Nat.beq te.size 1 with
          | false => rw [hz] at h; exact h.elim
          | true =>
          rw [hz] at h
          have hz := Nat.eq_of_beq_eq_true hz
          have hx : x = .string b := by cases hr with | d h => cases h; rfl
          subst hx
          refine ⟨b.size, _, Lib.strCells b, h, ?_, ⟨by simp [Builtin.lenOf], fun k hk => ?_, fun h0 q n0 cap hc => ?_, fun h0 h1 h2 => ?_, fun h0 b' sLen sCap olds o1 o2 o3 o4 o5 => ?_, fun h0 g sLen sCap cur o1 o2 o3 => ?_⟩⟩
          · rw [hz]
            refine ⟨by rw [Lib.strCells_length, Nat.mul_one], fun j hj => ⟨rfl, fun q d hq => ?_⟩, Lib.strCells_oneCell b⟩
            cases q with
            | succ q => simp at hq
            | zero =>
              simp only [List.getElem?_cons_zero, Option.some.injEq] at hq
              subst hq
              have hj' : j < b.data.toList.length := by simpa using hj
              refine ⟨.int .u8 ((b.data.toList.getD j 0).toNat : Int), ?_, .d (.v rfl)⟩
              simp only [Lib.strCells, Nat.mul_one, Nat.add_zero, List.getElem?_map, List.getElem?_eq_getElem hj', Option.map_some]
              rw [List.getD_eq_getElem?_getD, List.getElem?_eq_getElem hj', Option.getD_some]
          · rw [i2, hz, Nat.mul_one]
            simp only [Builtin.firstCells, Sem.run_pure, Lib.strCells]
            congr 1
            apply Array.ext'
            simp
          · cases q <;>
              simp [Builtin.append_, run_underlying hu, run_underlying hus, sizeOf, typeInfo, i1, Builtin.lenOf, Builtin.firstCells, h0, hc, storeCells]
          · have := run_append_nil_string (P := E.P) w t t' ty' e i z hu hus i1 i4 b h0 h1 h2
            rw [this]
            congr 5
            apply Array.ext'
            simp [Lib.strCells]
          · exact Lib.run_append_grow_string (P := E.P) w t t' ty' e i z hu hus i1 i4 b' sLen sCap olds o1 o2 b o3 o4 o5
          · have := Lib.run_append_room_string (P := E.P) w t t' ty' e i hu hus i1 (i2.trans hz) g sLen sCap cur o1 b o2 (by rw [i2, hz, Nat.mul_one, Lib.strCells_length] at o3; exact o3)
            rw [this, i2, hz, Nat.mul_one, Lib.strCells_length]
        · exact h.elim
      · exact h.elim
    · exact h.elim

/-- What is appended comes to lie in a new block, behind what was there. -/
theorem newApp_out {e t t' ty' : TypeId} {te : TI} {i : TypeInfo} {z : Value} {n n0 : Nat} {f g : Nat → List V} {q : Option Addr} {old cs : List Value} {y : Value} {cap : Nat} (inv : Inv E nt w0 S0 W0 m ρ0 ρ S w s a) (hu : E.P.underlying t = some (.slice e))
    (i1 : E.P.info? e = some i) (i2 : i.size = te.size) (i3 : i.bytes = te.bytes) (i4 : i.zero = some z) (hzc : z.cells.size = te.size) (hzok : ∀ x ∈ z.cells.toList, cellVal x = true) (hsz : 0 < te.size)
    (b1 : n0 + n ≤ 9223372036854775807) (b2 : (n0 + n) * te.bytes ≤ 140737488355328) (hn : 0 < n) (hcap : cap < n0 + n) (hq : (q = none ∧ n0 = 0 ∧ cap = 0) ∨ ∃ ad0, q = some ad0 ∧ ∀ (j : Nat) v, old[j]? = some v → w.cell? (ad0.add j) = some v)
    (hold : RowsAt ρ s.hp.length S w n0 te.size f old) (hrows : RowsAt ρ s.hp.length S w n te.size g cs) (hsrc : Src E.P w t t' ty' e i z y n cs) :
    ∃ w' K, n0 + n ≤ K ∧ (Builtin.append_ #[t, t'] ty' #[.slice q n0 cap, y]).run E.P w = .ok (.slice (some ⟨w.heap.size, 0, none⟩) (n0 + n) K) w' ∧
      Inv E nt w0 S0 W0 m ρ0 (more ρ s.hp.length ⟨w.heap.size, K⟩) S w' (s.push (.rows e (n0 + n) none te.size fun i => bif Nat.blt i n0 then f i else g (i - n0))) a := by
  have hge := grownCap_ge w (n0 + n) cap e
  have hlm := grownCap_le_maxLen w (n0 + n) cap e (by unfold maxLen; exact b1)
  have hrun : (Builtin.append_ #[t, t'] ty' #[.slice q n0 cap, y]).run E.P w = .ok (.slice (some ⟨w.heap.size, 0, none⟩) (n0 + n) (grownCap w (n0 + n) cap e)) (w.drew.alloc (.cells (old.toArray ++ cs.toArray ++ Builtin.zeroCells z.cells (grownCap w (n0 + n) cap e - (n0 + n))) e)) := by
    rcases hq with ⟨rfl, rfl, rfl⟩ | ⟨ad0, rfl, hc0⟩
    · have := hsrc.nil hn (by omega) (by rw [i3]; rw [Nat.zero_add] at b2; omega)
      have h0 : old = [] := by have := hold.len; simpa using this
      subst h0
      simpa using this
    · exact hsrc.grow hn ad0 n0 cap old (by rw [i2]; exact hold.len) hc0 (by omega) (by omega) (growslice_fits (by omega) (by rw [i3]; exact b2))
  refine ⟨_, _, hge, hrun, inv.onto (ob := none) (b := ⟨w.heap.size, grownCap w (n0 + n) cap e⟩) rfl rfl rfl (by simp) (fun k hk _ => ?_) (fun k e => by cases e) (.inl rfl) ?_⟩
  · exact (heap_alloc_old w.drew _ (by simpa using hk)).trans rfl
  · have hSw : Same S w (w.drew.alloc (.cells (old.toArray ++ cs.toArray ++ Builtin.zeroCells z.cells (grownCap w (n0 + n) cap e - (n0 + n))) e)) := by
      intro b hb
      exact (heap_alloc_old w.drew _ (by have := inv.heap.old b hb; simpa using this)).trans rfl
    refine HC.of_rows (xs := old ++ cs ++ (Builtin.zeroCells z.cells (grownCap w (n0 + n) cap e - (n0 + n))).toList) ?_ ((hold.app hrows).mono (by omega) (fun c h => more_old h) (fun _ h => h) hSw) ?_ (by rw [more_new]; exact hge) (by rw [more_new]; exact hlm) ?_ ?_
    · rw [more_new]
      have := heap_alloc_new w.drew (.cells (old.toArray ++ cs.toArray ++ Builtin.zeroCells z.cells (grownCap w (n0 + n) cap e - (n0 + n))) e)
      rw [show w.drew.heap.size = w.heap.size from rfl] at this
      simp only
      rw [this]
      congr 2
      apply Array.ext'; simp
    · rw [Nat.add_mul, ← hrows.len, ← hold.len, ← List.length_append, List.take_left']
      rfl
    · rw [List.length_append, List.length_append, hold.len, hrows.len, Array.length_toList, size_zeroCells, hzc, ← Nat.add_mul, ← Nat.add_mul, more_new]
      congr 1; simp only; omega
    · intro x hx
      rcases List.mem_append.1 hx with hx | hx
      · exact (hold.app hrows).ok x hx
      · exact zeroCells_ok hzok (by omega) _ x hx

theorem ms_new {N n K sz b : Nat} (h : n ≤ K) : RV (more ρ N ⟨b, K⟩) (N + 1) S w (.ms N 0 n none sz) (.slice (some ⟨b, 0, none⟩) n K) := by
  have := RV.ms (ρ := more ρ N ⟨b, K⟩) (N := N + 1) (S := S) (w := w) (c := N) (off := 0) (sz := sz) (n := n) (q := none) (by omega) (by rw [more_new]; exact h) (by rw [more_new]; simp [capOf])
  rw [more_new, Nat.zero_mul] at this
  simpa [capOf] using this

theorem appendVC.out {ts : List TypeId} {dst src : V} {x y : Value} {k : V → St → Prop} (ty' : TypeId) (hE : E.Ok) (inv : Inv E nt w0 S0 W0 m ρ0 ρ S w s a) (h : appendVC E ts dst src s k)
    (hx : RV ρ s.hp.length S w dst x) (hy : RV ρ s.hp.length S w src y) :
    ∃ z w' ρ' s' v', (Builtin.append_ ts.toArray ty' #[x, y]).run E.P w = .ok z w' ∧ Inv E nt w0 S0 W0 m ρ0 ρ' S w' s' a ∧ RV ρ' s'.hp.length S w' v' z ∧ k v' s' := by
  unfold appendVC at h
  split at h
  · rename_i t t'
    split at h
    · rename_i ti hti
      have hu := und_eq hE hti
      split at h
      · rename_i e hd
        rw [hd] at hu
        split at h
        · rename_i te hte
          have hT := hE.T _ _ hte
          obtain ⟨i, z, i1, i2, i3, i4, i5, i6, i7⟩ := hT.inf
          cases hz0 : Nat.beq te.size 0 with
          | true => rw [hz0] at h; exact h.elim
          | false =>
          rw [hz0] at h
          have hsz : 0 < te.size := Nat.pos_of_ne_zero (Nat.ne_of_beq_eq_false hz0)
          simp only [cond_false] at h
          obtain ⟨n, g, cs, hh, hrows, hsrc⟩ := srcTK.out (ty' := ty') hE inv h hsz hy hu hT i1 i2 i4
          clear h
          have h := hh
          clear hh
          have hzc : z.cells.size = te.size := by rw [← Array.length_toList, i5, i7]
          have hzok : ∀ x ∈ z.cells.toList, cellVal x = true := by rw [i5]; exact List.all_eq_true.1 i6
          -- onto nothing
          have onto0 : ∀ (q : Option Addr), x = .slice q 0 0 → nsel n (k dst s) (newApp e te n g s k) → ∃ z w' ρ' s' v', (Builtin.append_ [t, t'].toArray ty' #[x, y]).run E.P w = .ok z w' ∧ Inv E nt w0 S0 W0 m ρ0 ρ' S w' s' a ∧ RV ρ' s'.hp.length S w' v' z ∧ k v' s' := by
            intro q hxq h
            rcases nsel.out h with ⟨hn0, h⟩ | ⟨hn, ⟨b1, b2⟩, h⟩
            · refine ⟨_, w, ρ, s, _, ?_, inv, hx, h⟩
              rw [hxq]
              exact hsrc.none_ hn0 q 0 0 (Nat.le_refl _)
            · subst hxq
              · obtain ⟨w', K, hK, hrun, inv'⟩ := newApp_out (ty' := ty') (cap := 0) (n0 := 0) (q := q) (old := []) (f := fun _ => []) inv hu i1 i2 i3 i4 hzc hzok hsz (by omega) (by rw [Nat.zero_add]; exact b2) hn (by omega) (by
                  cases q with
                  | none => exact .inl ⟨rfl, rfl, rfl⟩
                  | some ad0 => exact .inr ⟨ad0, rfl, by simp⟩) .zero hrows hsrc
                rw [Nat.zero_add] at hK hrun inv'
                refine ⟨_, w', _, _, _, hrun, inv', ?_, newC.out h⟩
                simpa [St.push] using ms_new (ρ := ρ) (S := S) (w := w') (N := s.hp.length) (sz := te.size) (b := w.heap.size) hK
          split at h
          · cases hx with | d hx' =>
            cases hx' with
            | sl g hq _ _ _ _ _ => exact absurd rfl hq
            | e hq => exact absurd rfl hq
            | nil _ => exact onto0 none rfl h
          · cases hx with
            | z0 _ => exact onto0 none rfl h
            | z1 _ => exact onto0 _ rfl h
          · -- onto a chunk
            rename_i c n0 sz
            rw [nth_eq] at h
            split at h
            · rename_i ty nn ncap sz' f hc
              cases hq : (Nat.beq sz te.size && (Nat.beq sz' te.size && Nat.beq ty e)) with
              | false => rw [hq] at h; exact h.elim
              | true =>
              rw [hq] at h
              obtain ⟨q1, q23⟩ := Bool.and_eq_true_iff.1 hq
              obtain ⟨q2, q3⟩ := Bool.and_eq_true_iff.1 q23
              have e1 := Nat.eq_of_beq_eq_true q1
              have e2 := Nat.eq_of_beq_eq_true q2
              have e3 := Nat.eq_of_beq_eq_true q3
              subst e1; subst e2; subst e3
              obtain ⟨⟨b0, b2, b3⟩, hh⟩ := (show (n0 ≤ nn ∧ n0 + n ≤ 9223372036854775807 ∧ (n0 + n) * te.bytes ≤ 140737488355328) ∧ _ from h)
              cases hx with | ms hcl hncap hm =>
              simp only [capOf, Nat.sub_zero, Nat.zero_add, Nat.zero_mul] at hncap hm ⊢
              obtain ⟨xs, g1, g2, g3⟩ := inv.heap.at_ c _ hc
              have hle0 : n0 * te.size ≤ xs.length := by rw [g2.2.2.1]; exact Nat.mul_le_mul_right _ hncap
              have hold : RowsAt ρ s.hp.length S w n0 te.size f (xs.take (n0 * te.size)) := by
                refine ⟨by simp; omega, fun i hi => ⟨(g3 i (by omega)).1, fun k d hk => ?_⟩, fun x hx => g2.2.2.2.2 x (List.mem_of_mem_take hx)⟩
                obtain ⟨b, h4, h5⟩ := (g3 i (by omega)).2 k d hk
                have hk' : k < te.size := by rw [← (g3 i (by omega)).1]; exact (List.getElem?_eq_some_iff.1 hk).1
                have hlt : i * te.size + k < n0 * te.size := by
                  have : i * te.size + te.size ≤ n0 * te.size := by rw [← Nat.succ_mul]; exact Nat.mul_le_mul_right _ hi
                  omega
                exact ⟨b, by rw [List.getElem?_take, if_pos hlt]; exact h4, h5⟩
              have hcells0 : ∀ (j : Nat) v, (xs.take (n0 * te.size))[j]? = some v → w.cell? ((⟨(ρ c).b, 0, none⟩ : Addr).add j) = some v := fun j v hv => by
                rw [List.getElem?_take] at hv
                split at hv
                · rw [Addr.add_at]; simp only [World.cell?, g1]; simpa using hv
                · simp at hv
              obtain ⟨r1, r2⟩ := setK.out hh
              rw [setL_single _ _ _ (by simp at r1; omega)] at r2
              have r2 := newC.out r2
              have invd := inv.drop (c := c)
              -- in place
              have fin : ∀ (w' : World) (ys cs : List Value), RowsAt ρ s.hp.length S w n te.size g cs → n0 + n ≤ (ρ c).cap → w'.os = w.os → w'.tape = w.tape → w'.output = w.output → w'.heap.size = w.heap.size →
                  (∀ k, k ≠ (ρ c).b → w'.heap[k]? = w.heap[k]?) → w'.heap[(ρ c).b]? = some (.cells ys.toArray ty (0, 0)) → ys.take ((n0 + n) * te.size) = xs.take (n0 * te.size) ++ cs → ys.length = (ρ c).cap * te.size → (∀ x ∈ ys, cellVal x = true) →
                  ∃ ρ' s' v', Inv E nt w0 S0 W0 m ρ0 ρ' S w' s' a ∧ RV ρ' s'.hp.length S w' v' (.slice (some ⟨(ρ c).b, 0, none⟩) (n0 + n) (ρ c).cap) ∧ k v' s' := by
                intro w' ys cs hrows hcap' ho ht hu hz hb hys htake hyl hyok
                have hS : Same S w w' := fun k hk => hb k fun e => inv.heap.out _ _ hc (e ▸ hk)
                have hnew : w0.heap.size ≤ (ρ c).b ∨ W0 (ρ c).b := inv.new c _ hc
                refine ⟨_, _, _, invd.onto (ob := some (ρ c).b) (b := ρ c) (ch := .rows ty (n0 + n) none te.size (fun i => bif Nat.blt i n0 then f i else g (i - n0))) ho ht hu (Nat.le_of_eq hz.symm) (fun k _ hk => hb k fun e => hk (by rw [e])) (fun k e => ?_) (.inr (.inr rfl)) ?_, ?_, r2⟩
                · injection e with e; subst e
                  refine ⟨inv.heap.out _ _ hc, fun c' ch' hc' e' => ?_, hnew⟩
                  rw [List.getElem?_set] at hc'
                  split at hc'
                  · simp at hc'
                  · rename_i hne
                    exact hne (inv.heap.inj _ _ _ _ hc hc' e'.symm)
                · refine HC.of_rows (xs := ys) (by simp only [List.length_set]; rw [more_new]; exact hys) ((hold.app hrows).mono (by simp) (fun c h => by simpa using more_old h) (fun _ h => h) hS) htake (by simp only [List.length_set]; rw [more_new]; exact hcap') (by simp only [List.length_set]; rw [more_new]; exact g2.2.1) (by simp only [List.length_set]; rw [more_new]; exact hyl) hyok
                · have := ms_new (ρ := ρ) (S := S) (w := w') (N := s.hp.length) (sz := te.size) (b := (ρ c).b) hcap'
                  simpa [St.push] using this
              rcases Nat.eq_zero_or_pos n with h0 | hnpos
              · subst h0
                obtain ⟨ρ', s', v', f1, f2, f3⟩ := fin w xs [] ⟨by simp, fun i hi => absurd hi (by omega), by simp⟩ (by omega) rfl rfl rfl rfl (fun _ _ => rfl) g1 (by simp) g2.2.2.1 g2.2.2.2.2
                exact ⟨_, w, ρ', s', v', hsrc.none_ rfl (some ⟨(ρ c).b, 0, none⟩) n0 (ρ c).cap hncap, f1, f2, f3⟩
              · by_cases hroom : n0 + n ≤ (ρ c).cap
                · have hfit : n0 * te.size + cs.length ≤ xs.length := by rw [hrows.len, ← Nat.add_mul, g2.2.2.1]; exact Nat.mul_le_mul_right _ hroom
                  have hrun := hsrc.room hnpos (ρ c).b n0 (ρ c).cap xs.toArray g1 hroom (by rw [i2]; simpa using hfit)
                  rw [i2] at hrun
                  have hset : (xs.toArray.toList.take (n0 * te.size) ++ cs ++ xs.toArray.toList.drop (n0 * te.size + cs.length)) = setL (n0 * te.size) cs xs := by simp [setL]
                  rw [hset] at hrun
                  obtain ⟨ρ', s', v', f1, f2, f3⟩ := fin (w.setRow (ρ c).b (setL (n0 * te.size) cs xs).toArray) (setL (n0 * te.size) cs xs) cs hrows hroom rfl rfl rfl (by simp [World.setRow])
                    (fun k hk => setRow_other _ _ _ _ hk) (setRow_heap _ _ _ _ _ _ g1) (by
                      rw [Nat.add_mul, ← hrows.len]
                      unfold setL
                      rw [List.take_append_of_le_length (by simp; omega), List.take_of_length_le (by simp; omega)]) (by rw [setL_length hfit]; exact g2.2.2.1) (setL_all hrows.ok g2.2.2.2.2)
                  exact ⟨_, _, ρ', s', v', hrun, f1, f2, f3⟩
                · obtain ⟨w', K, hK, hrun, inv'⟩ := newApp_out (ty' := ty') (n0 := n0) (cap := (ρ c).cap) (old := xs.take (n0 * te.size)) (f := f) (g := g) (cs := cs) (q := some ⟨(ρ c).b, 0, none⟩) invd hu i1 i2 i3 i4 hzc hzok hsz b2 b3 hnpos (by omega) (.inr ⟨_, rfl, hcells0⟩) (by simpa using hold) (by simpa using hrows) hsrc
                  refine ⟨_, w', _, _, _, hrun, inv', ?_, r2⟩
                  simpa [St.push] using ms_new (ρ := ρ) (S := S) (w := w') (N := s.hp.length) (sz := te.size) (b := w.heap.size) hK
            · exact h.elim
          · exact h.elim
        · exact h.elim
      · exact h.elim
    · exact h.elim
  · exact h.elim

end
end Go.E
