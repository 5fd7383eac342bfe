/- WK, part d: control, cuts, loops, calls by contract, function values, returns. No program in sight. -/
import Derived.Test.YteljaomifdnkkaaGreatDoorCompareKC
set_option linter.unusedSimpArgs false
set_option linter.unusedVariables false
namespace Go.WK
open Go.RowKit

structure Holds (g : Gh) (N : Nat) (st : St) (a : Act) (w : World) : Prop where
  defers : a.defers = []
  size : a.tmps.size = N
  env : ∀ i v, lk st.env i = some v → a.tmps[i]? = some v
  mdl : Mdl g st w

theorem at_of_holds {g : Gh} {N : Nat} {st : St} {p : Act → World → Prop} (h : ∀ a w, Holds g N st a w → p a w) : At g N st p := fun a w h1 h2 h3 h4 => h a w ⟨h1, h2, h3, h4⟩
theorem At.on {g : Gh} {N : Nat} {st : St} {p : Act → World → Prop} (h : At g N st p) {a : Act} {w : World} (k : Holds g N st a w) : p a w := h a w k.defers k.size k.env k.mdl

/-! ### Weaker states -/
def SubE : List (Nat × Value) → List (Nat × Value) → Prop
  | [], _ => True
  | (i, v) :: l, env => lk env i = some v ∧ SubE l env
theorem SubE.lk {l env : List (Nat × Value)} (h : SubE l env) : ∀ i v, WK.lk l i = some v → WK.lk env i = some v := by
  induction l with
  | nil => intro i v hv; cases hv
  | cons p l ih =>
    obtain ⟨j, u⟩ := p
    intro i v hv
    simp only [WK.lk] at hv
    cases hb : Nat.beq j i
    · rw [hb] at hv; exact ih h.2 i v hv
    · rw [hb] at hv
      simp only [cond_true, Option.some.injEq] at hv
      subst hv
      have := Nat.eq_of_beq_eq_true hb
      subst this
      exact h.1
def keep {α : Type} : List Bool → List α → List α
  | [], _ => []
  | _, [] => []
  | true :: m, x :: l => x :: keep m l
  | false :: m, _ :: l => keep m l
theorem keep_sub {α : Type} : ∀ (m : List Bool) (l : List α), (keep m l).Sublist l
  | [], l => List.nil_sublist l
  | true :: _, [] => List.nil_sublist []
  | false :: _, [] => List.nil_sublist []
  | true :: m, x :: l => (keep_sub m l).cons_cons x
  | false :: m, x :: l => (keep_sub m l).cons x
def sel {α : Type} (l : List α) : List Nat → List α
  | [] => []
  | i :: r => match l[i]? with | some x => x :: sel l r | none => sel l r
theorem mem_sel {α : Type} {l : List α} : ∀ {is : List Nat} {x : α}, x ∈ sel l is → x ∈ l
  | [], _, h => by cases h
  | i :: r, x, h => by
    unfold sel at h
    split at h
    · rename_i y hy
      rcases List.mem_cons.1 h with rfl | h
      · exact List.mem_of_getElem? hy
      · exact mem_sel h
    · exact mem_sel h
structure Sub (st' st : St) : Prop where
  env : SubE st'.env st.env
  bx : ∃ m, keep m st.bx = st'.bx
  rw : ∃ m, keep m st.rw = st'.rw
  fs : ∃ is, sel st.fs is = st'.fs
theorem Sub.mut {st' st : St} (h : Sub st' st) {k : Nat} (hk : st'.mut k) : st.mut k := by
  obtain ⟨m1, h1⟩ := h.bx
  obtain ⟨m2, h2⟩ := h.rw
  rcases hk with ⟨b, hb, he⟩ | ⟨r, hr, he⟩
  · exact .inl ⟨b, (keep_sub m1 st.bx).subset (by rw [h1]; exact hb), he⟩
  · exact .inr ⟨r, (keep_sub m2 st.rw).subset (by rw [h2]; exact hr), he⟩
theorem Mdl.weak {g : Gh} {st' st : St} {w : World} (h : Mdl g st w) (s : Sub st' st) : Mdl g st' w := by
  have hmut := fun k hk => s.mut (k := k) hk
  obtain ⟨-, ⟨m1, h1⟩, ⟨m2, h2⟩, ⟨is, h3⟩⟩ := s
  refine ⟨h.m0, h.ext, fun b hb => h.bxs b ((keep_sub m1 st.bx).subset (by rw [h1]; exact hb)), fun r hr => h.rws r ((keep_sub m2 st.rw).subset (by rw [h2]; exact hr)), ?_, fun f hf => ?_⟩
  · refine List.Pairwise.sublist ?_ h.sep
    unfold St.ids
    rw [← h1, ← h2]
    exact ((keep_sub m1 st.bx).map _).append ((keep_sub m2 st.rw).map _)
  · exact f.mv (h.fcs f (mem_sel (is := is) (by rw [h3]; exact hf))) fun k hk => ⟨⟨hk.1, hk.2.1, fun hm => hk.2.2 (hmut k hm)⟩, rfl⟩
theorem Holds.weak {g : Gh} {N : Nat} {st' st : St} {a : Act} {w : World} (h : Holds g N st a w) (s : Sub st' st) : Holds g N st' a w :=
  ⟨h.defers, h.size, fun i v hv => h.env i v (s.env.lk i v hv), h.mdl.weak s⟩
/-- A weaker state is enough. -/
theorem at_weak {g : Gh} {N : Nat} {st : St} {p : Act → World → Prop} (st' : St) (s : Sub st' st) (k : At g N st' p) : At g N st p := at_of_holds fun _ _ h => k.on (h.weak s)

/-! ### Control -/
section
variable {P : Program} {Q : Exit → Act → World → Prop} {g : Gh} {N : Nat} {st : St}
theorem at_seq {x y : Code} (k : At g N st (x.wp P (Exit.then (y.wp P Q) Q))) : At g N st ((Code.seq x y).wp P Q) := k.imp fun _ _ h => wp_seq h
theorem at_block {id : Nat} {c : Code} (k : At g N st (c.wp P (Exit.inBlock id Q))) : At g N st ((Code.block id c).wp P Q) := k.imp fun _ _ h => wp_block h
theorem at_skip (k : At g N st (Q .normal)) : At g N st (Code.skip.wp P Q) := k.imp fun _ _ h => wp_skip h
theorem at_exit {id : Nat} (k : At g N st (Q (.exit id))) : At g N st ((Code.exit id).wp P Q) := k.imp fun _ _ h => wp_exit h
theorem at_ret (k : At g N st (Q .ret)) : At g N st (Code.ret.wp P Q) := k.imp fun _ _ h => wp_ret h
theorem at_region {id : Nat} {l : List Oper} (k : At g N st (wpList P l.toArray Q l)) : At g N st ((Code.region id l.toArray false).wp P Q) := k.imp fun _ _ h => wp_region_lit h
theorem at_nil {ops : Array Oper} (k : At g N st (Q .normal)) : At g N st (wpList P ops Q []) := k
theorem at_true {c : Operand} {x y : Code} {b : Bool} (hc : opv st.env c = some (.bool b)) (hb : b = true) (k : At g N st (x.wp P Q)) : At g N st ((Code.cond c x y).wp P Q) := by
  subst hb
  exact fun a w h1 h2 h3 h4 => wp_cond_true (eval_of h3 hc) (k a w h1 h2 h3 h4)
theorem at_false {c : Operand} {x y : Code} {b : Bool} (hc : opv st.env c = some (.bool b)) (hb : b = false) (k : At g N st (y.wp P Q)) : At g N st ((Code.cond c x y).wp P Q) := by
  subst hb
  exact fun a w h1 h2 h3 h4 => wp_cond_false (eval_of h3 hc) (k a w h1 h2 h3 h4)
variable {K : Act → World → Prop}
theorem at_then (k : At g N st K) : At g N st (Exit.then K Q .normal) := k
theorem at_then_exit {i : Nat} (k : At g N st (Q (.exit i))) : At g N st (Exit.then K Q (.exit i)) := k
theorem at_then_ret (k : At g N st (Q .ret)) : At g N st (Exit.then K Q .ret) := k
theorem at_in {id : Nat} (k : At g N st (Q .normal)) : At g N st (Exit.inBlock id Q .normal) := k
theorem at_in_ret {id : Nat} (k : At g N st (Q .ret)) : At g N st (Exit.inBlock id Q .ret) := k
theorem at_in_exit {id : Nat} (k : At g N st (Q .normal)) : At g N st (Exit.inBlock id Q (.exit id)) := k.imp fun _ _ h => by simpa [Exit.inBlock] using h
theorem at_in_other {id i : Nat} (hi : Nat.beq i id = false) (k : At g N st (Q (.exit i))) : At g N st (Exit.inBlock id Q (.exit i)) := k.imp fun _ _ h => by
  have : i ≠ id := fun e => by subst e; simp at hi
  simpa [Exit.inBlock, this] using h

/-- Ways meet: whatever way c takes to its normal end, it ends in one of the states S v. -/
theorem at_cut {V : Type} {c : Code} (S : V → St) (h1 : At g N st (c.wp P (Exit.then (fun a w => ∃ v, Holds g N (S v) a w) Q))) (h2 : ∀ v, At g N (S v) (Q .normal)) : At g N st (c.wp P Q) :=
  h1.imp fun a w h => wp_mono h fun e a' w' q => by
    cases e with
    | normal => obtain ⟨v, hv⟩ := q; exact (h2 v).on hv
    | _ => exact q
theorem at_cutP {V : Type} {c : Code} (pre : V → Prop) (S : V → St) (h1 : At g N st (c.wp P (Exit.then (fun a w => ∃ v, pre v ∧ Holds g N (S v) a w) Q))) (h2 : ∀ v, pre v → At g N (S v) (Q .normal)) : At g N st (c.wp P Q) :=
  h1.imp fun a w h => wp_mono h fun e a' w' q => by
    cases e with
    | normal => obtain ⟨v, hp, hv⟩ := q; exact (h2 v hp).on hv
    | _ => exact q
theorem at_leafP {V : Type} {pre : V → Prop} {S : V → St} (v : V) (hp : pre v) (s : Sub (S v) st) : At g N st (Exit.then (fun a w => ∃ v, pre v ∧ Holds g N (S v) a w) Q .normal) :=
  at_of_holds fun _ _ h => ⟨v, hp, h.weak s⟩
theorem at_leaf {V : Type} {S : V → St} (v : V) (s : Sub (S v) st) : At g N st (Exit.then (fun a w => ∃ v, Holds g N (S v) a w) Q .normal) :=
  at_of_holds fun _ _ h => ⟨v, h.weak s⟩

/-- A loop, by its model: lp n s is what n rounds from s on come to. -/
theorem at_loop {σ ρ V : Type} {body : Code} {r : ρ} (lp : Nat → σ → Option ρ) (S : σ → V → St) (h0 : ∀ s, lp 0 s = none)
    (hbody : ∀ n s, lp (n + 1) s = some r → ∀ v, At g N (S s v) (body.wp P (Exit.then (fun a w => ∃ s' v', lp n s' = some r ∧ Holds g N (S s' v') a w) Q))) :
    ∀ n s v, lp n s = some r → At g N (S s v) ((Code.loop body).wp P Q) := by
  intro n s v hs
  refine at_of_holds fun a w h => wp_loop_rounds n ?_
  revert h
  induction n generalizing s v a w with
  | zero => rw [h0] at hs; cases hs
  | succ n ih =>
    intro h
    rw [rounds_succ]
    refine wp_mono ((hbody n s hs v).on h) fun e a' w' q => ?_
    cases e with
    | normal => obtain ⟨s', v', hl, hh⟩ := q; exact ih s' v' hl a' w' hh
    | _ => exact q
theorem at_loopW {σ ρ V : Type} {body : Code} {r : ρ} (lp : Nat → σ → Option ρ) (S : σ → V → St) (h0 : ∀ s, lp 0 s = none) (n : Nat) (s : σ) (v : V) (hs : lp n s = some r) (sub : Sub (S s v) st)
    (hbody : ∀ n s, lp (n + 1) s = some r → ∀ v, At g N (S s v) (body.wp P (Exit.then (fun a w => ∃ s' v', lp n s' = some r ∧ Holds g N (S s' v') a w) Q))) :
    At g N st ((Code.loop body).wp P Q) := at_weak _ sub (at_loop lp S h0 hbody n s v hs)
theorem at_again {σ ρ V : Type} {r : ρ} {lp : Nat → σ → Option ρ} {S : σ → V → St} {n : Nat} (s' : σ) (v' : V) (hl : lp n s' = some r) (s : Sub (S s' v') st) :
    At g N st (Exit.then (fun a w => ∃ s' v', lp n s' = some r ∧ Holds g N (S s' v') a w) Q .normal) :=
  at_of_holds fun _ _ h => ⟨s', v', hl, h.weak s⟩
end

/-! ### Models -/
inductive Fl (α β : Type) where
  | ret (a : α)
  | go (b : β)
theorem obind {α β : Type} {x : Option α} {f : α → Option β} {r : β} (h : x.bind f = some r) : ∃ v, x = some v ∧ f v = some r := by
  cases x with
  | none => cases h
  | some v => exact ⟨v, rfl, h⟩
theorem oinj {α : Type} {a b : α} (h : some a = some b) : a = b := Option.some.inj h
theorem ipos {α : Type} {c : Prop} [Decidable c] {a b r : α} (hc : c) (h : (if c then a else b) = r) : a = r := by rwa [if_pos hc] at h
theorem ineg {α : Type} {c : Prop} [Decidable c] {a b r : α} (hc : ¬ c) (h : (if c then a else b) = r) : b = r := by rwa [if_neg hc] at h

/-! ### Guards -/
section
variable {P : Program} {ops : Array Oper} {Q : Exit → Act → World → Prop} {g : Gh} {N : Nat} {st : St} {rest : List Oper} {d ty t j : Nat} {op : Op} {pos : String} {aft : Array Edge} {b want : Bool} {dst : Option Nat}
theorem at_on (hop : (ops[j]?).bind (·.dst) = some t) (hv : lk st.env t = some (.bool b)) (hb : b = want) (k : At g N st (wpList P ops Q (⟨dst, op, ty, pos, aft, none⟩ :: rest))) :
    At g N st (wpList P ops Q (⟨dst, op, ty, pos, aft, some (j, want)⟩ :: rest)) := fun a w h1 h2 h3 h4 => by
  have hw : Region.wanted ⟨dst, op, ty, pos, aft, some (j, want)⟩ (yielded ops a.tmps) = true := by
    simp [Region.wanted, yielded, hop, h3 t _ hv, hb]
  have := k a w h1 h2 h3 h4
  unfold wpList at this ⊢
  rw [if_pos (by rfl)] at this
  rw [if_pos hw]
  exact this
theorem at_off (hop : (ops[j]?).bind (·.dst) = some t) (hv : lk st.env t = some (.bool b)) (hb : b = !want) (hd : Nat.blt d N = true) (k : At g N (st.put d undef) (wpList P ops Q rest)) :
    At g N st (wpList P ops Q (⟨some d, op, ty, pos, aft, some (j, want)⟩ :: rest)) := fun a w h1 h2 h3 h4 => by
  have hw : Region.wanted ⟨some d, op, ty, pos, aft, some (j, want)⟩ (yielded ops a.tmps) = false := by
    simp [Region.wanted, yielded, hop, h3 t _ hv, hb]
  unfold wpList
  rw [hw]
  exact k _ w (by simpa [Act.put] using h1) (by simpa [Act.put] using h2) (lk_put h2 (by simpa using hd) h3) h4.put
end

/-! ### Contracts -/
def Enters (P : Program) (f : FuncId) : Prop := ∃ fn, P.funcs[f]? = some fn ∧ (fn.name == "runtime.NumGoroutine") = false ∧ fn.body.isNone = false
theorem Enters.run {P : Program} {f : FuncId} (h : Enters P f) (args : Array Value) (w : World) : (callFunc f args).run P w = .ok (.enter f args) w := by
  obtain ⟨fn, hf, hn, hb⟩ := h
  have h1 : fn.name ≠ "runtime.NumGoroutine" := by simpa using hn
  have h2 : ¬ fn.body = none := by
    intro h
    rw [h] at hb
    simp at hb
  simp [callFunc, hf, h1, h2]

def Ends (w : World) (M0 : Nat → Prop) (post : Value → List Fact → Prop) (e : Ending) (w' : World) : Prop :=
  ∃ v fs, e = .returned v ∧ post v fs ∧ Ext (fun _ => False) w w' ∧ ∀ f ∈ fs, f.P (fun k => k < w'.heap.size ∧ ¬ M0 k) w'

/-- A contract: whoever calls f with these arguments, of which these facts hold, gets what post says, and nothing that was there has turned. -/
structure Spec (P : Program) (f : FuncId) (args : List Value) (fs : List Fact) (post : Value → List Fact → Prop) : Prop where
  en : Enters P f
  ok : ∀ w M0, (∀ k, M0 k → k < w.heap.size) → (∀ f ∈ fs, f.P (fun k => k < w.heap.size ∧ ¬ M0 k) w) → Calls P f args.toArray w (Ends w M0 post)

theorem Spec.imp {P : Program} {f : FuncId} {args : List Value} {fs : List Fact} {post post' : Value → List Fact → Prop} (h : Spec P f args fs post) (k : ∀ v fs, post v fs → post' v fs) : Spec P f args fs post' :=
  ⟨h.en, fun w M0 h1 h2 => (h.ok w M0 h1 h2).mono fun _ _ ⟨v, fs, h3, h4, h5⟩ => ⟨v, fs, h3, k v fs h4, h5⟩⟩

def argEnv : Nat → List Value → List (Nat × Value)
  | _, [] => []
  | n, v :: vs => (n, v) :: argEnv (n + 1) vs
theorem lk_argEnv : ∀ (vs : List Value) (n i : Nat) (v : Value), lk (argEnv n vs) i = some v → n ≤ i ∧ vs[i - n]? = some v
  | [], _, _, _, h => by cases h
  | u :: vs, n, i, v, h => by
    simp only [argEnv, lk] at h
    cases hb : Nat.beq n i
    · rw [hb] at h
      obtain ⟨h1, h2⟩ := lk_argEnv vs (n + 1) i v h
      refine ⟨by omega, ?_⟩
      have : i - n = (i - (n + 1)) + 1 := by omega
      rw [this]
      simpa using h2
    · rw [hb] at h
      have := Nat.eq_of_beq_eq_true hb
      subst this
      simpa using h

theorem spec_start {P : Program} {f : FuncId} {fn : Func} {c : Code} {args : List Value} {fs : List Fact} {post : Value → List Fact → Prop} {N : Nat}
    (hf : P.funcs[f]? = some fn) (hn : (fn.name == "runtime.NumGoroutine") = false) (hb : fn.body = some c) (hN : fn.ntmps = N) (ha : Nat.ble args.length N = true)
    (h : ∀ g : Gh, (∀ k, ¬ g.S0 k) → At g N ⟨argEnv 0 args, [], [], fs⟩ (c.wp P (bodyPost P fn (Ends g.w0 g.M0 post)))) : Spec P f args fs post := by
  refine ⟨⟨fn, hf, hn, by rw [hb]; rfl⟩, fun w M0 h1 h2 => calls_of_wp hf hb ?_⟩
  have ha' : args.length ≤ N := by simpa using ha
  refine h ⟨w, fun _ => False, M0⟩ (fun _ hk => hk) _ w rfl ?_ ?_ ?_
  · subst hN; simp; omega
  · intro i v hv
    obtain ⟨_, h3⟩ := lk_argEnv args 0 i v hv
    have hlt := (List.getElem?_eq_some_iff.1 h3).1
    simp only [Nat.sub_zero] at h3 hlt
    rw [Array.getElem?_append_left (by simpa using hlt)]
    simpa using h3
  · exact ⟨h1, Ext.refl _ _, fun b hb => (by cases hb), fun r hr => (by cases hr), List.Pairwise.nil, fun f hf => Fact.mv f (h2 f hf) fun k hk => ⟨⟨hk.1, hk.2, fun hm => (by rcases hm with ⟨_, hb, _⟩ | ⟨_, hr, _⟩ <;> contradiction)⟩, rfl⟩⟩

def opvs (env : List (Nat × Value)) : List Operand → Option (List Value)
  | [] => some []
  | x :: l => match opv env x, opvs env l with | some v, some vs => some (v :: vs) | _, _ => none
theorem evals_of {env : List (Nat × Value)} {a : Act} (h : ∀ i v, lk env i = some v → a.tmps[i]? = some v) : ∀ {l : List Operand} {vs : List Value}, opvs env l = some vs → l.map a.eval = vs
  | [], vs, hv => by simp [opvs] at hv; subst hv; rfl
  | x :: l, vs, hv => by
    unfold opvs at hv
    split at hv
    · rename_i v us h1 h2
      injection hv with hv
      subst hv
      simp [eval_of h h1, evals_of h h2]
    · cases hv

section
variable {P : Program} {Q : Exit → Act → World → Prop} {g : Gh} {N : Nat} {st : St} {K : Act → World → Prop} {d ty : Nat} {f : Operand} {xs : List Operand} {tys : Array TypeId} {pos : String} {aft : Array Edge} {dst : Option Nat} {gd : Option (Nat × Bool)}

theorem run_call {a : Act} {w : World} (h3 : ∀ i v, lk st.env i = some v → a.tmps[i]? = some v) {gid : FuncId} {caps vs : List Value} (hf : opv st.env f = some (.func (.func gid) #[] caps.toArray)) (hx : opvs st.env xs = some vs) (en : Enters P gid) :
    (execOp a.eval ⟨dst, .call ⟨.value f, xs.toArray, tys⟩, ty, pos, aft, gd⟩).run P w = .ok (.enter gid (vs ++ caps).toArray) w := by
  have he := evals_of h3 hx
  have : (#[] ++ Array.map a.eval xs.toArray) ++ caps.toArray = (vs ++ caps).toArray := by rw [List.map_toArray, he]; simp
  simp only [execOp, resolve, eval_of h3 hf, Deferred.ofValue, Sem.run_bind, Sem.run_pure, Result.andThen_ok, invoke, this, en.run]

theorem Mdl.after {w w' : World} {fs' : List Fact} (h4 : Mdl g st w) (hext : Ext (fun _ => False) w w') (hfs : ∀ f ∈ fs', f.P (fun k => k < w'.heap.size ∧ ¬ (g.M0 k ∨ st.mut k)) w') : Mdl g { st with fs := fs' ++ st.fs } w' := by
  have h5 := h4.same hext
  exact ⟨h5.m0, h5.ext, h5.bxs, h5.rws, h5.sep, fun f' hf' => (List.mem_append.1 hf').elim (fun hm => f'.mv (hfs f' hm) fun k hk => ⟨⟨hk.1, fun h => hk.2 (.inl h), fun h => hk.2 (.inr h)⟩, rfl⟩) (h5.fcs f')⟩
theorem Mdl.m0c {w : World} (h4 : Mdl g st w) : ∀ k, g.M0 k ∨ st.mut k → k < w.heap.size := fun k hk => hk.elim (fun h => Nat.lt_of_lt_of_le (h4.m0 k h) h4.ext.size) (fun h => h4.lt h)

/-- A call by its contract. -/
theorem hv_call {gid : FuncId} {caps vs : List Value} {fs : List Fact} {post : Value → List Fact → Prop} (is : List Nat) (hc : Spec P gid (vs ++ caps) fs post)
    (hf : opv st.env f = some (.func (.func gid) #[] caps.toArray)) (hx : opvs st.env xs = some vs) (hfs : sel st.fs is = fs) (hd : Nat.blt d N = true)
    (k : ∀ v fs', post v fs' → At g N (({ st with fs := fs' ++ st.fs } : St).put d v) K) :
    At g N st (fun a w => Oper.wp P ⟨some d, .call ⟨.value f, xs.toArray, tys⟩, ty, pos, aft, gd⟩ a w K Q) := by
  intro a w h1 h2 h3 h4
  unfold Oper.wp
  rw [run_call h3 hf hx hc.en]
  refine (hc.ok w (fun k => g.M0 k ∨ st.mut k) h4.m0c (fun f' hf' => ?_)).mono ?_
  · exact f'.mv (h4.fcs f' (mem_sel (is := is) (by rw [hfs]; exact hf'))) fun k hk => ⟨⟨hk.1, fun h => h.elim hk.2.1 hk.2.2⟩, rfl⟩
  · rintro e w' ⟨v, fs', rfl, hp, hext, hff⟩
    exact k v fs' hp _ w' (by simpa [Act.put] using h1) (by simpa [Act.put] using h2) (lk_put h2 (by simpa using hd) h3) (h4.after hext hff).put

/-- A function value: what is known of its calls. -/
def FnOk (P : Program) (fv : Value) (Sp : List Value → List Fact → (Value → List Fact → Prop) → Prop) : Fact where
  P := fun F w => ∃ gid caps, fv = .func (.func gid) #[] (List.toArray caps) ∧ Enters P gid ∧ ∀ (w' : World) (M0 : Nat → Prop), (∀ k, M0 k → k < w'.heap.size) → (∀ k, F k → ¬ M0 k ∧ k < w'.heap.size ∧ w'.heap[k]? = w.heap[k]?) →
    ∀ args fs post, Sp args fs post → (∀ f ∈ fs, f.P (fun k => k < w'.heap.size ∧ ¬ M0 k) w') → Calls P gid (args ++ caps).toArray w' (Ends w' M0 post)
  mv := fun ⟨gid, caps, h1, h2, h⟩ k => ⟨gid, caps, h1, h2, fun w' M0 h3 h4 => h w' M0 h3 fun i hi => ⟨(h4 i (k i hi).1).1, (h4 i (k i hi).1).2.1, (h4 i (k i hi).1).2.2.trans (k i hi).2⟩⟩

theorem hv_callf (i : Nat) {fv : Value} {vs : List Value} {fs : List Fact} {post : Value → List Fact → Prop} {Sp : List Value → List Fact → (Value → List Fact → Prop) → Prop} (is : List Nat)
    (hf : opv st.env f = some fv) (hk : st.fs[i]? = some (FnOk P fv Sp)) (hx : opvs st.env xs = some vs) (hsp : Sp vs fs post) (hfs : sel st.fs is = fs) (hd : Nat.blt d N = true)
    (k : ∀ v fs', post v fs' → At g N (({ st with fs := fs' ++ st.fs } : St).put d v) K) :
    At g N st (fun a w => Oper.wp P ⟨some d, .call ⟨.value f, xs.toArray, tys⟩, ty, pos, aft, gd⟩ a w K Q) := by
  intro a w h1 h2 h3 h4
  obtain ⟨gid, caps, rfl, en, hcall⟩ := h4.fcs _ (List.mem_of_getElem? hk)
  unfold Oper.wp
  rw [run_call h3 hf hx en]
  refine (hcall w (fun k => g.M0 k ∨ st.mut k) h4.m0c (fun j hj => ⟨fun h => h.elim hj.2.1 hj.2.2, hj.1, rfl⟩) vs fs post hsp (fun f' hf' => ?_)).mono ?_
  · exact f'.mv (h4.fcs f' (mem_sel (is := is) (by rw [hfs]; exact hf'))) fun k hk => ⟨⟨hk.1, fun h => h.elim hk.2.1 hk.2.2⟩, rfl⟩
  · rintro e w' ⟨v, fs', rfl, hp, hext, hff⟩
    exact k v fs' hp _ w' (by simpa [Act.put] using h1) (by simpa [Act.put] using h2) (lk_put h2 (by simpa using hd) h3) (h4.after hext hff).put

/-- What is known of a function value that is made here, by the function's contract and facts on what it has caught. -/
theorem at_fn {p : Act → World → Prop} (gid : FuncId) (caps : List Value) (is : List Nat) {cfs : List Fact} (Sp : List Value → List Fact → (Value → List Fact → Prop) → Prop) (en : Enters P gid)
    (hfs : sel st.fs is = cfs) (h : ∀ args fs post, Sp args fs post → Spec P gid (args ++ caps) (fs ++ cfs) post)
    (k : At g N (st.addF (FnOk P (.func (.func gid) #[] caps.toArray) Sp)) p) : At g N st p :=
  at_know (FnOk P (.func (.func gid) #[] caps.toArray) Sp) (fun w h4 => ⟨gid, caps, rfl, en, fun w' M0 h3 h5 args fs post hsp hff => (h args fs post hsp).ok w' M0 h3 fun f' hf' => by
    rcases List.mem_append.1 hf' with hm | hm
    · exact hff f' hm
    · exact f'.mv (h4.fcs f' (mem_sel (is := is) (by rw [hfs]; exact hm))) fun j hj => ⟨⟨(h5 j hj).2.1, (h5 j hj).1⟩, (h5 j hj).2.2⟩⟩) k

end

/-! ### Returns -/
inductive RV (P : Program) (st : St) : ResultVar → Value → Prop
  | tmp {t : Nat} {v : Value} (h : lk st.env t = some v) : RV P st (.tmp t) v
  | cell {t T sz by_ b : Nat} {z v : Value} {agg : Bool} {cs : List Value} {t' : TypeId} (i : Nat) (h : lk st.env t = some (.pointer (some ((⟨b, 0, none⟩ : Addr).add 0)))) (ht : tinf P T = some (z, sz, by_, agg)) (hb : st.bx[i]? = some ⟨b, cs, t'⟩)
      (hl : cs.length = sz) (hp : Nat.blt 0 sz = true) (hv : ldv agg cs = v) : RV P st (.cell t T) v
inductive RVs (P : Program) (st : St) : List ResultVar → List Value → Prop
  | nil : RVs P st [] []
  | cons {r : ResultVar} {v : Value} {rs : List ResultVar} {vs : List Value} (h : RV P st r v) (t : RVs P st rs vs) : RVs P st (r :: rs) (v :: vs)

section
variable {P : Program} {g : Gh} {N : Nat} {st : St}
theorem run_RV {a : Act} {w : World} (h3 : ∀ i v, lk st.env i = some v → a.tmps[i]? = some v) (h4 : Mdl g st w) {r : ResultVar} {v : Value} (h : RV P st r v) :
    Sem.run P (match r with | .tmp t => (pure (a.tmps.getD t undef) : Sem Value) | .cell b t => do loadVar t (← asAddr (a.tmps.getD b undef))) w = .ok v w := by
  cases h with
  | tmp h => simp [Array.getD_eq_getD_getElem?, h3 _ _ h]
  | @cell t T sz by_ b z v agg cs t' i h ht hb hl hp hv =>
    subst hv
    have hm := (h4.bxs _ (List.mem_of_getElem? hb)).1
    have hr := run_loadAt (P := P) ht hl (by simpa using hp) (box_cells (sz := cs.length) (o := 0) hm (by rw [List.drop_zero, List.take_length]))
    simp only [Instr.loadAt, Instr.sureAddr, Sem.run_bind, Sem.run_pure, Result.andThen_ok] at hr
    simp [Array.getD_eq_getD_getElem?, h3 _ _ h, asAddr, hr]
theorem run_RVs {a : Act} {w : World} (h3 : ∀ i v, lk st.env i = some v → a.tmps[i]? = some v) (h4 : Mdl g st w) : ∀ {rs : List ResultVar} {vs : List Value}, RVs P st rs vs →
    Sem.run P (rs.mapM fun r => match r with | .tmp t => (pure (a.tmps.getD t undef) : Sem Value) | .cell b t => do loadVar t (← asAddr (a.tmps.getD b undef))) w = .ok vs w
  | _, _, .nil => by simp
  | _, _, .cons h t => by
    have h5 := run_RV h3 h4 h
    have h6 := run_RVs h3 h4 t
    rw [List.mapM_cons]
    simp only [Sem.run_bind, h5, h6, Result.andThen_ok, Sem.run_pure]

theorem at_return {fn : Func} {rs : List ResultVar} {vs : List Value} {post : Value → List Fact → Prop} (v : Value) (is : List Nat) {fs : List Fact} (hS : ∀ k, ¬ g.S0 k) (hr : fn.results = rs.toArray) (hv : RVs P st rs vs)
    (ht : (match vs with | [u] => u | us => .tuple us.toArray) = v) (hf : sel st.fs is = fs) (hp : post v fs) : At g N st (bodyPost P fn (Ends g.w0 g.M0 post) .ret) := by
  intro a w h1 h2 h3 h4
  refine ⟨h1, v, ?_, v, fs, rfl, hp, ⟨h4.ext.os, h4.ext.tape, h4.ext.output, h4.ext.size, fun k hk _ => h4.ext.block k hk (hS k)⟩, fun f hf' => ?_⟩
  · have h5 := run_RVs h3 h4 hv
    unfold results
    rw [hr, List.mapM_toArray]
    rw [Sem.run_bind, Sem.run_map]
    refine Eq.trans (b := Result.andThen (Result.ok vs.toArray w) fun vs w' => Sem.run P (pure (if h : vs.size = 1 then vs[0] else Value.tuple vs)) w') (congrArg (fun r => Result.andThen r _) ?_) ?_
    · exact congrArg (fun r => Result.andThen r fun a w' => Result.ok a.toArray w') h5
    · subst ht
      simp only [Result.andThen_ok, Sem.run_pure]
      cases vs with
      | nil => rfl
      | cons u us =>
        cases us with
        | nil => rfl
        | cons u' us' => rfl
  · exact f.mv (h4.fcs f (mem_sel (is := is) (by rw [hf]; exact hf'))) fun k hk => ⟨⟨hk.1, hk.2.1⟩, rfl⟩
end
end Go.WK
