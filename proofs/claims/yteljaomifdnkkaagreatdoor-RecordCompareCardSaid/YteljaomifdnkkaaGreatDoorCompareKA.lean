/- WK, part a: readings of data, symbolic states, and the steps of straight code. Own work of this seat; no program in sight. -/
import Derived.Calls
import Derived.Tactics
import Derived.LoopN
import Derived.OrdersHeld
import Derived.Below
import Derived.Laws.AppendOwn
import Derived.Laws.Entries
set_option linter.unusedSimpArgs false
set_option linter.unusedVariables false
namespace Go.WK
open Go.RowKit

/-! ### Persistent readings -/
structure Fact where
  P : (Nat → Prop) → World → Prop
  mv : ∀ {F F' : Nat → Prop} {w w' : World}, P F w → (∀ k, F k → F' k ∧ w'.heap[k]? = w.heap[k]?) → P F' w'

structure Ty (α : Type) where
  sz : Nat
  bytes : Nat
  R : (Nat → Prop) → World → α → List Value → Prop
  inv : α → Prop
  len : ∀ {F w x cs}, R F w x cs → cs.length = sz
  one : ∀ {F w x cs}, R F w x cs → ∀ u ∈ cs, u.oneCell' = true
  pure : ∀ {F w x cs}, R F w x cs → inv x
  mv : ∀ {F F' : Nat → Prop} {w w' : World} {x : α} {cs : List Value}, R F w x cs → (∀ k, F k → F' k ∧ w'.heap[k]? = w.heap[k]?) → R F' w' x cs

def Ty.fact {α : Type} (T : Ty α) (x : α) (cs : List Value) : Fact := ⟨fun F w => T.R F w x cs, fun h k => T.mv h k⟩

theorem cell_of_heap {w w' : World} {a : Addr} (h : w'.heap[a.block]? = w.heap[a.block]?) : w'.cell? a = w.cell? a := by simp [World.cell?, h]
theorem add_block (a : Addr) (n : Nat) : (a.add n).block = a.block := by unfold Addr.add; split <;> rfl
theorem add_zero' (a : Addr) : a.add 0 = a := by simp [Addr.add]
theorem add_add' (a : Addr) (i j : Nat) : (a.add i).add j = a.add (i + j) := by
  unfold Addr.add
  by_cases hi : i = 0
  · subst hi; simp
  · by_cases hj : j = 0
    · subst hj; simp
    · simp [hi, hj, Nat.add_assoc]

theorem add_b (b n : Nat) : (⟨b, 0, none⟩ : Addr).add n = ⟨b, n, none⟩ := by unfold Addr.add; split <;> simp_all

def Ty.sc {α : Type} (enc : α → Value) (inv : α → Prop) (bytes : Nat) (h1 : ∀ x, (enc x).oneCell' = true) : Ty α where
  sz := 1
  bytes := bytes
  R := fun _ _ x cs => cs = [enc x] ∧ inv x
  inv := inv
  len := fun h => by rw [h.1]; rfl
  one := fun h u hu => by rw [h.1] at hu; simp at hu; rw [hu]; exact h1 _
  pure := fun h => h.2
  mv := fun h _ => h

abbrev Str := List UInt8
def str (l : Str) : Value := .string ⟨l.toArray⟩
def lo : IntKind → Int | .i8 => -128 | .i16 => -32768 | .i32 => -2147483648 | .i64 => -9223372036854775808 | _ => 0
def hi : IntKind → Int | .i8 => 127 | .i16 => 32767 | .i32 => 2147483647 | .i64 => 9223372036854775807 | .u8 => 255 | .u16 => 65535 | .u32 => 4294967295 | .u64 => 18446744073709551615
def nb : IntKind → Nat | .i8 => 1 | .u8 => 1 | .i16 => 2 | .u16 => 2 | .i32 => 4 | .u32 => 4 | .i64 => 8 | .u64 => 8
def Ty.int (k : IntKind) : Ty Int := Ty.sc (fun x => .int k x) (fun x => lo k ≤ x ∧ x ≤ hi k) (nb k) (fun _ => rfl)
def Ty.bool : Ty Bool := Ty.sc .bool (fun _ => True) 1 (fun _ => rfl)
def Ty.str : Ty Str := Ty.sc WK.str (fun l => l.length ≤ 9223372036854775807) 16 (fun _ => rfl)

def Ty.via {γ α : Type} (p : γ → α) (T : Ty α) : Ty γ where
  sz := T.sz
  bytes := T.bytes
  R := fun F w x cs => T.R F w (p x) cs
  inv := fun x => T.inv (p x)
  len := fun h => T.len h
  one := fun h => T.one h
  pure := fun h => T.pure h
  mv := fun h k => T.mv h k

def Ty.cat {γ : Type} (A B : Ty γ) : Ty γ where
  sz := A.sz + B.sz
  bytes := A.bytes + B.bytes
  R := fun F w x cs => ∃ c1 c2, cs = c1 ++ c2 ∧ A.R F w x c1 ∧ B.R F w x c2
  inv := fun x => A.inv x ∧ B.inv x
  len := fun ⟨c1, c2, h, a, b⟩ => by rw [h, List.length_append, A.len a, B.len b]
  one := fun ⟨c1, c2, h, a, b⟩ u hu => by rw [h] at hu; exact (List.mem_append.1 hu).elim (A.one a u) (B.one b u)
  pure := fun ⟨_, _, _, a, b⟩ => ⟨A.pure a, B.pure b⟩
  mv := fun ⟨c1, c2, h, a, b⟩ k => ⟨c1, c2, h, A.mv a k, B.mv b k⟩

def Ty.size {γ : Type} (n : Nat) (A : Ty γ) : Ty γ := { A with bytes := n }

def Ty.slice {α : Type} (T : Ty α) : Ty (List α) where
  sz := 1
  bytes := 24
  R := fun F w xs cs => ∃ A c, cs = [.slice A xs.length c] ∧ xs.length ≤ c ∧ c ≤ maxLen ∧ xs.length * T.bytes ≤ 140737488355328 ∧
    ∀ i x, xs[i]? = some x → ∃ ad ec, A = some ad ∧ T.R F w x ec ∧ ∀ j u, ec[j]? = some u → F ad.block ∧ w.cell? (ad.add (i * T.sz + j)) = some u
  inv := fun xs => xs.length ≤ 9223372036854775807 ∧ xs.length * T.bytes ≤ 140737488355328 ∧ ∀ x ∈ xs, T.inv x
  len := fun ⟨_, _, h, _⟩ => by rw [h]; rfl
  one := fun ⟨_, _, h, _⟩ u hu => by rw [h] at hu; simp at hu; rw [hu]; rfl
  pure := fun ⟨A, c, _, h1, h2, h3, h⟩ => ⟨by unfold maxLen at h2; omega, h3, fun x hx => by
    obtain ⟨i, hi⟩ := List.getElem?_of_mem hx
    obtain ⟨ad, ec, _, hR, _⟩ := h i x hi
    exact T.pure hR⟩
  mv := fun ⟨A, c, h0, h1, h2, h3, h⟩ k => ⟨A, c, h0, h1, h2, h3, fun i x hx => by
    obtain ⟨ad, ec, ha, hR, hc⟩ := h i x hx
    exact ⟨ad, ec, ha, T.mv hR k, fun j u hu => ⟨(k _ (hc j u hu).1).1, by
      exact (cell_of_heap (a := ad.add (i * T.sz + j)) (by rw [add_block]; exact (k _ (hc j u hu).1).2)).trans (hc j u hu).2⟩⟩⟩

/-- Memory at p holds these cells. -/
def peek (p : Addr) (cs : List Value) : Fact where
  P := fun F w => ∀ j u, cs[j]? = some u → F p.block ∧ w.cell? (p.add j) = some u
  mv := fun h k j u hu => ⟨(k _ (h j u hu).1).1, (cell_of_heap (a := p.add j) (by rw [add_block]; exact (k _ (h j u hu).1).2)).trans (h j u hu).2⟩

/-- What lies, element by element, in these cells. -/
def Ty.row {α : Type} (T : Ty α) (xs : List α) (inner : List Value) : Fact where
  P := fun F w => inner.length = xs.length * T.sz ∧ ∀ i x, xs[i]? = some x → T.R F w x ((inner.drop (i * T.sz)).take T.sz)
  mv := fun ⟨h0, h⟩ k => ⟨h0, fun i x hx => T.mv (h i x hx) k⟩

/-! ### Symbolic states -/
structure Box where
  b : Nat
  cs : List Value
  t : TypeId
structure Row where
  v : Value
  e : TypeId
  sz : Nat
  n : Nat
  inner : List Value
def Row.blk (r : Row) : Option Nat := match r.v with | .slice (some a) _ (_ + 1) => some a.block | _ => none
def Box.ok (w : World) (b : Box) : Prop := w.heap[b.b]? = some (.cells b.cs.toArray b.t (0, 0))
def Row.ok (w : World) (r : Row) : Prop :=
  r.inner.length = r.n * r.sz ∧
  ((∃ a, r.v = .slice a 0 0 ∧ r.n = 0) ∨
   ∃ g cap cur, r.v = .slice (some ⟨g, 0, none⟩) r.n (cap + 1) ∧ w.heap[g]? = some (.cells cur r.e (0, 0)) ∧ r.n ≤ cap + 1 ∧ cap + 1 ≤ maxLen ∧ cur.size = (cap + 1) * r.sz ∧ cur.toList.take (r.n * r.sz) = r.inner)

structure St where
  env : List (Nat × Value)
  bx : List Box
  rw : List Row
  fs : List Fact

def lk : List (Nat × Value) → Nat → Option Value
  | [], _ => none
  | (i, v) :: l, j => bif Nat.beq i j then some v else lk l j

def St.mut (st : St) (k : Nat) : Prop := (∃ b ∈ st.bx, b.b = k) ∨ (∃ r ∈ st.rw, r.blk = some k)
def St.put (st : St) (d : Nat) (v : Value) : St := { st with env := (d, v) :: st.env }

/-- w0: the world at the call's begin; S0: the blocks that came in to be written; M0: the blocks that others may write. -/
structure Gh where
  w0 : World
  S0 : Nat → Prop
  M0 : Nat → Prop

def Gh.mine (g : Gh) (k : Nat) : Prop := (g.S0 k ∨ g.w0.heap.size ≤ k) ∧ ¬ g.M0 k
def foot (g : Gh) (st : St) (w : World) (k : Nat) : Prop := k < w.heap.size ∧ ¬ g.M0 k ∧ ¬ st.mut k
def St.ids (st : St) : List (Option Nat) := st.bx.map (fun b => some b.b) ++ st.rw.map Row.blk

structure Ext (S : Nat → Prop) (w w' : World) : Prop where
  os : w'.os = w.os
  tape : w'.tape = w.tape
  output : w'.output = w.output
  size : w.heap.size ≤ w'.heap.size
  block : ∀ k, k < w.heap.size → ¬ S k → w'.heap[k]? = w.heap[k]?

theorem Ext.refl (S : Nat → Prop) (w : World) : Ext S w w := ⟨rfl, rfl, rfl, Nat.le_refl _, fun _ _ _ => rfl⟩
theorem Ext.trans {S S' : Nat → Prop} {a b c : World} (h : Ext S a b) (k : Ext S' b c) (hs : ∀ i, S' i → S i ∨ a.heap.size ≤ i) : Ext S a c :=
  ⟨k.os.trans h.os, k.tape.trans h.tape, k.output.trans h.output, Nat.le_trans h.size k.size,
   fun i hi hn => (k.block i (Nat.lt_of_lt_of_le hi h.size) (fun hS => (hs i hS).elim hn (fun hle => by omega))).trans (h.block i hi hn)⟩

structure Mdl (g : Gh) (st : St) (w : World) : Prop where
  m0 : ∀ k, g.M0 k → k < g.w0.heap.size
  ext : Ext g.S0 g.w0 w
  bxs : ∀ b ∈ st.bx, b.ok w ∧ g.mine b.b
  rws : ∀ r ∈ st.rw, r.ok w ∧ ∀ k, r.blk = some k → g.mine k
  sep : st.ids.Pairwise fun a b => a = none ∨ a ≠ b
  fcs : ∀ f ∈ st.fs, f.P (foot g st w) w

def At (g : Gh) (N : Nat) (st : St) (p : Act → World → Prop) : Prop :=
  ∀ a w, a.defers = [] → a.tmps.size = N → (∀ i v, lk st.env i = some v → a.tmps[i]? = some v) → Mdl g st w → p a w

def opv (env : List (Nat × Value)) : Operand → Option Value
  | .tmp t => lk env t
  | .const v => some v
  | .global g => some (.pointer (some ⟨g, 0, none⟩))
  | .func f => some (.func (.func f) #[] #[])

theorem eval_of {env : List (Nat × Value)} {a : Act} (h : ∀ i v, lk env i = some v → a.tmps[i]? = some v) {x : Operand} {v : Value} (hx : opv env x = some v) : a.eval x = v := by
  cases x with
  | tmp t => have := h t v hx; simp [Act.eval, Array.getD_eq_getD_getElem?, this]
  | const u => simpa [opv, Act.eval] using hx
  | global g => simpa [opv, Act.eval] using hx
  | func f => simpa [opv, Act.eval] using hx

theorem lk_put {env : List (Nat × Value)} {a : Act} {N d : Nat} {v : Value} (hN : a.tmps.size = N) (hd : d < N) (h : ∀ i v, lk env i = some v → a.tmps[i]? = some v) :
    ∀ i u, lk ((d, v) :: env) i = some u → (a.put (some d) v).tmps[i]? = some u := by
  intro i u hu
  simp only [lk] at hu
  by_cases hdi : d = i
  · subst hdi
    simp at hu
    subst hu
    simp [Act.put, hN, hd]
  · have : Nat.beq d i = false := by
      cases hb : Nat.beq d i
      · rfl
      · exact absurd (Nat.eq_of_beq_eq_true hb) hdi
    rw [this] at hu
    simp only [cond_false] at hu
    simp [Act.put, hdi, h i u hu]

section
variable {P : Program} {ops : Array Oper} {Q : Exit → Act → World → Prop} {g : Gh} {N : Nat} {st : St} {rest : List Oper}
theorem Mdl.put {w : World} {d : Nat} {v : Value} (h : Mdl g st w) : Mdl g (st.put d v) w := ⟨h.m0, h.ext, h.bxs, h.rws, h.sep, h.fcs⟩

theorem At.imp {p q : Act → World → Prop} (h : At g N st p) (k : ∀ a w, p a w → q a w) : At g N st q := fun a w h1 h2 h3 h4 => k a w (h a w h1 h2 h3 h4)

/-- What a light step may lean on: the boxes and the facts. -/
structure SW (st : St) (w : World) : Prop where
  bxs : ∀ b ∈ st.bx, b.ok w
  fcs : ∀ f ∈ st.fs, ∃ F, f.P F w
theorem Mdl.sw {w : World} (h : Mdl g st w) : SW st w := ⟨fun b hb => (h.bxs b hb).1, fun f hf => ⟨_, h.fcs f hf⟩⟩

/-- An operation that yields a value and leaves the world. -/
def Lt (P : Program) (st : St) (o : Oper) (v : Value) : Prop :=
  ∀ (a : Act) (w : World), (∀ i u, lk st.env i = some u → a.tmps[i]? = some u) → SW st w → (execOp a.eval o).run P w = .ok (.value v) w

section
variable {d ty : Nat} {op : Op} {pos : String} {aft : Array Edge} {v : Value} {dst : Option Nat} {gd : Option (Nat × Bool)}
theorem at_lt (h : Lt P st ⟨some d, op, ty, pos, aft, none⟩ v) (hd : Nat.blt d N = true)
    (k : At g N (st.put d v) (wpList P ops Q rest)) : At g N st (wpList P ops Q (⟨some d, op, ty, pos, aft, none⟩ :: rest)) := by
  intro a w h1 h2 h3 h4
  unfold wpList
  rw [if_pos (by rfl)]
  refine .inl ?_
  unfold Oper.wp
  rw [h a w h3 h4.sw]
  exact k _ w (by simpa [Act.put] using h1) (by simpa [Act.put] using h2) (lk_put h2 (by simpa using hd) h3) h4.put
theorem at_hv {o : Oper} (hg : o.guard = none) (k : At g N st (fun a w => Oper.wp P o a w (wpList P ops Q rest) Q)) : At g N st (wpList P ops Q (o :: rest)) := by
  intro a w h1 h2 h3 h4
  unfold wpList
  rw [if_pos (by simp [Region.wanted, hg])]
  exact .inl (k a w h1 h2 h3 h4)

theorem lt_move {x : Operand} (hx : opv st.env x = some v) : Lt P st ⟨dst, .move x, ty, pos, aft, gd⟩ v := fun a w h3 _ => by simp [execOp, eval_of h3 hx]
theorem lt_assign {x : Operand} (hx : opv st.env x = some v) : Lt P st ⟨dst, .assign x, ty, pos, aft, gd⟩ v := fun a w h3 _ => by simp [execOp, eval_of h3 hx]
theorem lt_pick {c x y : Operand} (b : Bool) {b' : Bool} (hc : opv st.env c = some (.bool b')) (hb : b' = b) (hx : (bif b then opv st.env x else opv st.env y) = some v) : Lt P st ⟨dst, .pick c x y, ty, pos, aft, gd⟩ v := fun a w h3 _ => by
  subst hb
  cases b'
  · simp only [cond_false] at hx; simp [execOp, eval_of h3 hc, asBool, eval_of h3 hx]
  · simp only [cond_true] at hx; simp [execOp, eval_of h3 hc, asBool, eval_of h3 hx]
theorem lt_extract {x : Operand} {i : Nat} {vs : Array Value} (hx : opv st.env x = some (.tuple vs)) (hi : vs[i]? = some v) : Lt P st ⟨dst, .extract x i, ty, pos, aft, gd⟩ v :=
  fun a w h3 _ => by simp [execOp, eval_of h3 hx, Instr.extract, hi]
end
end
end Go.WK
