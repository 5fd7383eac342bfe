/- WK, part g: regions that draw their order: light operations are taken first, heavy ones as they come up. No program in sight. -/
import Derived.Test.YteljaomifdnkkaaGreatDoorCompareKF
import Derived.OrdersHeld
set_option linter.unusedSimpArgs false
set_option linter.unusedVariables false
namespace Go.WK
open Go.RowKit

section
variable {P : Program} {ops : Array Oper} {Q : Exit → Act → World → Prop} {T : World → Prop} {m : Nat}
/-- As long as none of the operations from number m on has come up, T holds. -/
def TS (T : World → Prop) (m : Nat) (l : Array Bool) (w : World) : Prop := (∀ j, m ≤ j → l.getD j false = false) → T w
/-- Whatever order is picked from here on. -/
def anyS (P : Program) (ops : Array Oper) (Q : Exit → Act → World → Prop) (T : World → Prop) (m : Nat) : Nat → Array Bool → Act → World → Prop
  | 0, listed, a, w => Region.ready .any ops listed = [] ∧ Q .normal a w
  | n + 1, listed, a, w => (Region.ready .any ops listed = [] → Q .normal a w) ∧
    ∀ i ∈ Region.ready .any ops listed, wpOp P ops Q i (fun a' w' => TS T m (listed.setIfInBounds i true) w' ∧ anyS P ops Q T m n (listed.setIfInBounds i true) a' w') a w
theorem any_of_anyS : ∀ (n : Nat) (listed : Array Bool) (a : Act) (w : World), anyS P ops Q T m n listed a w → wpAny P .any ops Q n listed a w
 | 0, _, _, _, h => h
 | n + 1, _, _, _, h => ⟨h.1, fun i hi => wpOp_mono (fun _ _ k => any_of_anyS n _ _ _ k.2) (h.2 i hi)⟩

theorem TS.up {i : Nat} {l : Array Bool} {w : World} (h : TS T m l w) (hi : i < m) : TS T m (l.setIfInBounds i true) w := fun hj => h fun j hm => by
 have := hj j hm
 rwa [getD_set_ne false (by omega)] at this
theorem anyS_first {i : Nat} {oi : Oper} {v : Value} (hi : ops[i]? = some oi) (hsel : Region.noSelect ops = true) (hQ : ∀ c a w, ¬ Q (.panic c) a w) (him : i < m)
  (U : World → Prop) (hU : (∀ w, U w) ∨ ((∀ w, T w → U w) ∧ ∀ j oj, ops[j]? = some oj → m ≤ j → ∃ e ∈ oj.after, Region.binds .any e = true ∧ e.on = i)) :
  ∀ (n : Nat) (listed : Array Bool) (a : Act) (w : World),
   (∀ j oj, ops[j]? = some oj → j ≠ i → listed.getD j true = false → (∀ e ∈ oj.after, Region.binds .any e = true → e.on ≠ i) → oi.apart ops oj = true) →
   ((∀ w, U w) ∨ ∀ j, m ≤ j → listed.getD j false = false) →
   i ∈ Region.ready .any ops listed → YieldsIf P ops U oi v a → TS T m listed w →
   anyS P ops Q T m n (listed.setIfInBounds i true) (a.put oi.dst v) w → anyS P ops Q T m (n + 1) listed a w := by
 intro n
 have huw : ∀ (listed : Array Bool) (w : World), ((∀ w, U w) ∨ ∀ j, m ≤ j → listed.getD j false = false) → TS T m listed w → U w := fun listed w hl ht => by
  rcases hU with h | h
  ·exact h w
  ·rcases hl with h' | h'
   ·exact h' w
   ·exact h.1 w (ht h')
 induction n with
 | zero =>
  intro listed a w _ hl hr hy hS H
  refine ⟨fun h => (by rw [h] at hr; cases hr), fun j hj => ?_⟩
  by_cases hji : j = i
  ·subst hji
   exact hy.wpOp hi (huw _ _ hl hS) ⟨hS.up him, H⟩
  ·have := ready_mono hj hji
   rw [H.1] at this
   cases this
 | succ n ih =>
  intro listed a w hfree hl hr hy hS H
  have hun : listed.getD i true = false := by
   have := (mem_ready.1 hr).1
   rcases Nat.lt_or_ge i listed.size with h' | h'
   ·simpa [h'] using this
   ·simp [Array.getElem?_eq_none h'] at this
  refine ⟨fun h => (by rw [h] at hr; cases hr), fun j hj => ?_⟩
  by_cases hji : j = i
  ·subst hji
   exact hy.wpOp hi (huw _ _ hl hS) ⟨hS.up him, H⟩
  ·have h1 := H.2 j (ready_mono hj hji)
   obtain ⟨hjun, oj, hoj, hall⟩ := mem_ready.1 hj
   have hnot : ∀ e ∈ oj.after, Region.binds .any e = true → e.on ≠ i := fun e he hb heq => by
    have h2 := hall e he hb
    rw [heq] at h2
    rcases Nat.lt_or_ge i listed.size with h' | h'
    ·simp [h'] at hun h2; rw [hun] at h2; cases h2
    ·simp [Array.getElem?_eq_none h'] at h2
   have hl' : (∀ w, U w) ∨ ∀ k, m ≤ k → (listed.setIfInBounds j true).getD k false = false := by
    rcases hU with h | h
    ·exact .inl h
    ·rcases hl with h' | h'
     ·exact .inl h'
     ·rcases Nat.lt_or_ge j m with hlt | hge
      ·exact .inr fun k hk => by rw [getD_set_ne false (by omega)]; exact h' k hk
      ·obtain ⟨e, he, hb, ho⟩ := h.2 j oj hoj hge
       exact absurd ho (hnot e he hb)
   have h2 := wpOp_putIf hoj (hfree j oj hoj hji hjun hnot) (fun cs b => Region.noSelect_spec hsel i oi cs b hi) (fun cs b => Region.noSelect_spec hsel j oj cs b hoj) (fun c a w h => absurd h (hQ c _ w)) hy h1
   have hfree' : ∀ k ok, ops[k]? = some ok → k ≠ i → (listed.setIfInBounds j true).getD k true = false →
     (∀ e ∈ ok.after, Region.binds .any e = true → e.on ≠ i) → oi.apart ops ok = true := fun k ok hk hki hun hno => by
    refine hfree k ok hk hki ?_ hno
    by_cases hjk : j = k
    ·subst hjk; exact hjun
    ·rw [getD_set_ne true hjk] at hun; exact hun
   have hdown : ∀ w', TS T m ((listed.setIfInBounds i true).setIfInBounds j true) w' → TS T m (listed.setIfInBounds j true) w' := fun w' ht hj' => ht fun k hk => by
    rw [Array.setIfInBounds_comm _ _ (Ne.symm hji), getD_set_ne false (by omega)]
    exact hj' k hk
   refine wpOp_mono (fun a' w' h3 => ⟨hdown _ h3.2.1, ih (listed.setIfInBounds j true) a' w' hfree' hl' (ready_mono hr (Ne.symm hji)) h3.1 (hdown _ h3.2.1) ?_⟩) h2
   rw [Array.setIfInBounds_comm _ _ hji]
   exact h3.2.2
end

/-- No way out by panic. -/
def NoP (Q : Exit → Act → World → Prop) : Exit → Act → World → Prop
  | .panic _, _, _ => False
  | e, a, w => Q e a w

def GdIs (ops : Array Oper) (env : List (Nat × Value)) (o : Oper) (r : Bool) : Prop :=
  match o.guard with
  | none => r = true
  | some (j, want) => ∃ t, (ops[j]?).bind (·.dst) = some t ∧ ((∃ b, lk env t = some (.bool b) ∧ (b == want) = r) ∨ (lk env t = some undef ∧ r = false))
theorem GdIs.wanted {ops : Array Oper} {env : List (Nat × Value)} {o : Oper} {r : Bool} (h : GdIs ops env o r) {a : Act} (h3 : ∀ i v, lk env i = some v → a.tmps[i]? = some v) : Region.wanted o (yielded ops a.tmps) = r := by
 unfold GdIs at h
 unfold Region.wanted
 split at h
 ·rename_i he; rw [he]; exact h.symm
 ·rename_i j want he
  obtain ⟨t, h1, ⟨b, h2, h5⟩ | ⟨h2, h5⟩⟩ := h
  ·rw [he]
   simp only [yielded, h1, Option.bind_some, h3 t _ h2]
   rw [← h5]
   cases b <;> cases want <;> rfl
  ·rw [he, h5]
   simp only [yielded, h1, Option.bind_some, h3 t _ h2]
   rfl

def tailB (ops : Array Oper) (m i : Nat) : Bool := (List.range ops.size).all fun j => Nat.blt j m || match ops[j]? with | some oj => oj.after.any fun e => Region.binds .any e && e.on == i | none => true
theorem tailB_spec {ops : Array Oper} {m i : Nat} (h : tailB ops m i = true) (j : Nat) (oj : Oper) (hj : ops[j]? = some oj) (hm : m ≤ j) : ∃ e ∈ oj.after, Region.binds .any e = true ∧ e.on = i := by
 have h1 := List.all_eq_true.1 h j (List.mem_range.2 (Array.getElem?_eq_some_iff.1 hj).1)
 rw [hj] at h1
 have h2 : Nat.blt j m = false := by
  cases hb : Nat.blt j m
  ·rfl
  ·simp at hb; omega
 rw [h2] at h1
 simp only [Bool.false_or] at h1
 obtain ⟨e, he, hb⟩ := Array.any_eq_true'.1 h1
 simp only [Bool.and_eq_true, beq_iff_eq] at hb
 exact ⟨e, he, hb.1, hb.2⟩

/-- All that may be asked of a region's text when operation i is taken first: one look by the kernel. -/
def takeB (ops : Array Oper) (m : Nat) (bs : List Bool) (i : Nat) : Bool := Region.noSelect ops && Region.free .any ops bs.toArray i && (Region.ready .any ops bs.toArray).contains i && Nat.blt i m
def loadB (ops : Array Oper) (m : Nat) (bs : List Bool) (i : Nat) : Bool := takeB ops m bs i && tailB ops m i && (bs.drop m).all (!·)
theorem loadB_tail {m : Nat} {bs : List Bool} (h : (bs.drop m).all (!·) = true) (j : Nat) (hj : m ≤ j) : bs.toArray.getD j false = false := by
 rw [Array.getD_eq_getD_getElem?]
 simp only [List.getElem?_toArray]
 cases hb : bs[j]? with
 | none => rfl
 | some b =>
  have h1 : b ∈ bs.drop m := List.mem_of_getElem? (i := j - m) (by rw [List.getElem?_drop, show m + (j - m) = j by omega]; exact hb)
  have := List.all_eq_true.1 h b h1
  simpa using this

section
variable {P : Program} {ops : Array Oper} {Q : Exit → Act → World → Prop} {g : Gh} {N : Nat} {st st0 : St} {m n : Nat} {bs bs' : List Bool}

theorem at_draw {id : Nat} {l : List Oper} (m : Nat) (hm : P.follows .mixedOrders = true)
  (k : At g N st (fun a w => TS (SW st) m (List.replicate l.length false).toArray w ∧ anyS P l.toArray (NoP Q) (SW st) m l.length (List.replicate l.length false).toArray a w)) : At g N st ((Code.region id l.toArray true).wp P Q) := by
 intro a w h1 h2 h3 h4
 refine wp_mono (Q := NoP Q) ?_ fun e a w h => ?_
 ·refine wp_region_any hm ?_
  have := any_of_anyS _ _ _ _ (k a w.drew h1 h2 h3 (h4.same ⟨rfl, rfl, rfl, Nat.le_refl _, fun _ _ _ => rfl⟩)).2
  simpa using this
 ·cases e <;> first | exact h | exact (h : False).elim

/-- The states of a walk through such a region: what is listed, and the promise. -/
def AA (P : Program) (ops : Array Oper) (Q : Exit → Act → World → Prop) (st0 : St) (m n : Nat) (bs : List Bool) (a : Act) (w : World) : Prop :=
  TS (SW st0) m bs.toArray w ∧ anyS P ops (NoP Q) (SW st0) m n bs.toArray a w
theorem aa_start {id : Nat} {l : List Oper} (m : Nat) (hm : P.follows .mixedOrders = true) (k : At g N st (AA P l.toArray Q st m l.length (List.replicate l.length false))) : At g N st ((Code.region id l.toArray true).wp P Q) := at_draw m hm k

theorem set_bs {i : Nat} (hs : bs.set i true = bs') : bs.toArray.setIfInBounds i true = bs'.toArray := by rw [← hs]; simp

/-- Take an operation first that looks at no memory. -/
theorem aa_pure (i : Nat) {d ty : Nat} {op : Op} {pos : String} {aft : Array Edge} {gd : Option (Nat × Bool)} {v : Value} (hi : ops[i]? = some ⟨some d, op, ty, pos, aft, gd⟩) (hb : takeB ops m bs i = true) (hs : bs.set i true = bs')
  (hg : GdIs ops st.env ⟨some d, op, ty, pos, aft, gd⟩ true) (h : Lt P ⟨st.env, [], [], []⟩ ⟨some d, op, ty, pos, aft, gd⟩ v) (hd : Nat.blt d N = true)
  (hT : ∀ w, Mdl g st w → TS (SW st0) m bs.toArray w)
  (k : At g N (st.put d v) (AA P ops Q st0 m n bs')) : At g N st (AA P ops Q st0 m (n + 1) bs) := by
 intro a w h1 h2 h3 h4
 have ht := hT w h4
 refine ⟨ht, ?_⟩
 simp only [takeB, Bool.and_eq_true] at hb
 refine anyS_first hi hb.1.1.1 (fun c a w h => h) (by simpa using hb.2) (fun _ => True) (.inl fun _ => trivial) n _ a w (Region.free_spec hi hb.1.1.2) (.inl fun _ => trivial) (by simpa using hb.1.2) (.inl ⟨hg.wanted h3, fun w' _ => h a w' h3 ⟨fun b hb => (by cases hb), fun f hf => (by cases hf)⟩⟩) ht ?_
 rw [set_bs hs]
 exact (k _ w (by simpa [Act.put] using h1) (by simpa [Act.put] using h2) (lk_put h2 (by simpa using hd) h3) h4.put).2
/-- Pass an operation over whose guard does not want it. -/
theorem aa_off (i : Nat) {d ty : Nat} {op : Op} {pos : String} {aft : Array Edge} {gd : Option (Nat × Bool)} (hi : ops[i]? = some ⟨some d, op, ty, pos, aft, gd⟩) (hb : takeB ops m bs i = true) (hs : bs.set i true = bs')
  (hg : GdIs ops st.env ⟨some d, op, ty, pos, aft, gd⟩ false) (hd : Nat.blt d N = true)
  (hT : ∀ w, Mdl g st w → TS (SW st0) m bs.toArray w)
  (k : At g N (st.put d undef) (AA P ops Q st0 m n bs')) : At g N st (AA P ops Q st0 m (n + 1) bs) := by
 intro a w h1 h2 h3 h4
 have ht := hT w h4
 refine ⟨ht, ?_⟩
 simp only [takeB, Bool.and_eq_true] at hb
 refine anyS_first hi hb.1.1.1 (fun c a w h => h) (by simpa using hb.2) (fun _ => True) (.inl fun _ => trivial) n _ a w (Region.free_spec hi hb.1.1.2) (.inl fun _ => trivial) (by simpa using hb.1.2) (.inr ⟨hg.wanted h3, rfl⟩) ht ?_
 rw [set_bs hs]
 exact (k _ w (by simpa [Act.put] using h1) (by simpa [Act.put] using h2) (lk_put h2 (by simpa using hd) h3) h4.put).2
/-- Take an operation first that looks at the boxes and facts of the region's begin. -/
theorem aa_load (i : Nat) {d ty : Nat} {op : Op} {pos : String} {aft : Array Edge} {gd : Option (Nat × Bool)} {v : Value} (hi : ops[i]? = some ⟨some d, op, ty, pos, aft, gd⟩) (hb : loadB ops m bs i = true) (hs : bs.set i true = bs')
  (hg : GdIs ops st.env ⟨some d, op, ty, pos, aft, gd⟩ true) (h : Lt P ⟨st.env, st0.bx, [], st0.fs⟩ ⟨some d, op, ty, pos, aft, gd⟩ v) (hd : Nat.blt d N = true)
  (hT : ∀ w, Mdl g st w → TS (SW st0) m bs.toArray w)
  (k : At g N (st.put d v) (AA P ops Q st0 m n bs')) : At g N st (AA P ops Q st0 m (n + 1) bs) := by
 intro a w h1 h2 h3 h4
 have ht := hT w h4
 refine ⟨ht, ?_⟩
 simp only [loadB, takeB, Bool.and_eq_true] at hb
 obtain ⟨⟨⟨⟨⟨hb1, hb2⟩, hb3⟩, hb4⟩, hb5⟩, hb6⟩ := hb
 refine anyS_first hi hb1 (fun c a w h => h) (by simpa using hb4) (SW st0) (.inr ⟨fun _ h => h, tailB_spec hb5⟩) n _ a w (Region.free_spec hi hb2) (.inr (loadB_tail hb6)) (by simpa using hb3) (.inl ⟨hg.wanted h3, fun w' hw' => h a w' h3 ⟨hw'.bxs, hw'.fcs⟩⟩) ht ?_
 rw [set_bs hs]
 exact (k _ w (by simpa [Act.put] using h1) (by simpa [Act.put] using h2) (lk_put h2 (by simpa using hd) h3) h4.put).2

/-- Those that may come up are the ones of the list: each of them. -/
theorem aa_all {rs : List Nat} (hr : Region.ready .any ops bs.toArray = rs) (hne : rs.isEmpty = false)
  (hT : ∀ w, Mdl g st w → TS (SW st0) m bs.toArray w)
  (k : ∀ i ∈ rs, At g N st (fun a w => wpOp P ops (NoP Q) i (fun a' w' => AA P ops Q st0 m n (bs.set i true) a' w') a w)) : At g N st (AA P ops Q st0 m (n + 1) bs) := by
 intro a w h1 h2 h3 h4
 refine ⟨hT w h4, fun h0 => ?_, fun i hi => ?_⟩
 ·rw [hr] at h0; subst h0; simp at hne
 ·rw [hr] at hi
  have := k i hi a w h1 h2 h3 h4
  rw [set_bs rfl]
  exact this
theorem aa_op {i : Nat} {K : Act → World → Prop} {o : Oper} (hi : ops[i]? = some o) (hg : GdIs ops st.env o true) (k : At g N st (fun a w => Oper.wp P o a w K (NoP Q))) : At g N st (fun a w => wpOp P ops (NoP Q) i K a w) := by
 intro a w h1 h2 h3 h4
 unfold wpOp
 rw [hi]
 simp only
 rw [if_pos (hg.wanted h3)]
 exact .inl (k a w h1 h2 h3 h4)
/-- A light operation, carried out as it comes up. -/
theorem hv_lt {K : Act → World → Prop} {d ty : Nat} {op : Op} {pos : String} {aft : Array Edge} {gd : Option (Nat × Bool)} {v : Value} (h : Lt P st ⟨some d, op, ty, pos, aft, gd⟩ v) (hd : Nat.blt d N = true)
  (k : At g N (st.put d v) K) : At g N st (fun a w => Oper.wp P ⟨some d, op, ty, pos, aft, gd⟩ a w K Q) := by
 intro a w h1 h2 h3 h4
 unfold Oper.wp
 rw [h a w h3 h4.sw]
 exact k _ w (by simpa [Act.put] using h1) (by simpa [Act.put] using h2) (lk_put h2 (by simpa using hd) h3) h4.put
theorem aa_done (hr : Region.ready .any ops bs.toArray = []) (hT : ∀ w, Mdl g st w → TS (SW st0) m bs.toArray w) (k : At g N st (Q .normal)) : At g N st (AA P ops Q st0 m n bs) := by
 intro a w h1 h2 h3 h4
 refine ⟨hT w h4, ?_⟩
 cases n with
 | zero => exact ⟨hr, k a w h1 h2 h3 h4⟩
 | succ n => exact ⟨fun _ => k a w h1 h2 h3 h4, fun i hi => by rw [hr] at hi; cases hi⟩
/-- The promise, while the boxes and facts of the begin are still among the state's. -/
theorem ts_in (k1 k2 : Nat) (h1 : st.bx.drop k1 = st0.bx) (h2 : st.fs.drop k2 = st0.fs) (w : World) (h4 : Mdl g st w) : TS (SW st0) m bs.toArray w :=
 fun _ => ⟨fun b hb => (h4.bxs b (List.mem_of_mem_drop (i := k1) (by rw [h1]; exact hb))).1, fun f hf => ⟨_, h4.fcs f (List.mem_of_mem_drop (i := k2) (by rw [h2]; exact hf))⟩⟩
/-- Nothing is promised any more. -/
theorem ts_out (h : (bs.drop m).any id = true) (w : World) (_ : Mdl g st w) : TS (SW st0) m bs.toArray w := fun hj => by
 obtain ⟨b, hb, ht⟩ := List.any_eq_true.1 h
 obtain ⟨j, hj'⟩ := List.getElem?_of_mem hb
 rw [List.getElem?_drop] at hj'
 have := hj (m + j) (by omega)
 rw [Array.getD_eq_getD_getElem?] at this
 simp only [List.getElem?_toArray, hj', Option.getD_some] at this
 rw [this] at ht
 cases ht
end
end Go.WK
