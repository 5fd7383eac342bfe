/- WK, part u: the walk of an iterator and of its callers ('for v := range f'), in the layer of fences. No program in sight. -/
import Derived.Test.YteljaomifdnkkaaGreatDoorCompareKT
import Derived.RangeFuncNested
import Derived.RangeFuncCalls
import Derived.RangeFuncLeaves
import Derived.RangeFuncFrom
import Derived.LoopNIn
set_option linter.unusedSimpArgs false
set_option linter.unusedVariables false
namespace Go.WK
open Go.RowKit
set_option linter.unusedVariables false
set_option linter.unusedSimpArgs false

/-- A fence that keeps nobody out. -/
structure Wd (F : Fence) : Prop where
  fn : ∀ f, F.fn f
  depth : F.depth = none
theorem wd_wide : Wd Fence.wide := ⟨fun _ => trivial, rfl⟩
/-- Facts over the blocks Ft, boxes of the walk's own, and one more thing that is known of the world. -/
def AtI (Ft : Nat → Prop) (inv : World → Prop) (N : Nat) (st : St) (p : Act → World → Prop) : Prop :=
  ∀ a w, a.defers = [] → a.tmps.size = N → (∀ i v, lk st.env i = some v → a.tmps[i]? = some v) → (∀ b ∈ st.bx, b.ok w) → (∀ f ∈ st.fs, f.P Ft w) → (∀ k, Ft k → k < w.heap.size) → inv w → p a w

def GrowI (inv : World → Prop) : Prop := ∀ W W' : World, inv W → W.grownBy W' none → inv W'

section
variable {P : Program} {F : Fence} {n : Nat} {ops : Array Oper} {Q : Exit → Act → World → Prop} {Ft : Nat → Prop} {inv : World → Prop} {N : Nat} {st : St} {rest : List Oper} {K : Act → World → Prop}
theorem semAt_eq {r : Option Nat} {ρ : Operand → Value} {o : Oper} (h : ∀ c, o.op ≠ .defer c) : o.semAt r ρ = execOp ρ o := by
 cases r with
 | none => rfl
 | some l => exact Oper.semAt_some l ρ o h
theorem wpIn_run (hw : Wd F) {o : Oper} {a : Act} {w : World} (hd : ∀ c, o.op ≠ .defer c) (h : o.uponIn F n P a K Q ((execOp a.eval o).run P w)) : o.wpIn F n P a w K Q :=
 ⟨fun f _ => hw.fn f, by rw [semAt_eq hd]; exact h⟩
variable {d ty : Nat} {op : Op} {pos : String} {aft : Array Edge} {v : Value}
theorem ai_lt (hw : Wd F) (h : Lt P ⟨st.env, st.bx, [], st.fs⟩ ⟨some d, op, ty, pos, aft, none⟩ v) (hd : Nat.blt d N = true) (hdf : ∀ c, op ≠ .defer c)
  (k : AtI Ft inv N (st.put d v) (wpListIn F n P ops Q rest)) : AtI Ft inv N st (wpListIn F n P ops Q (⟨some d, op, ty, pos, aft, none⟩ :: rest)) := by
 intro a w h1 h2 h3 h4 h5 h6 h7
 refine wpListIn_plain rfl fun K hK => wpIn_run hw hdf ?_
 rw [h a w h3 ⟨h4, fun f hf => ⟨_, h5 f hf⟩⟩]
 exact hK _ _ (k _ w (by simpa [Act.put] using h1) (by simpa [Act.put] using h2) (lk_put h2 (by simpa using hd) h3) h4 h5 h6 h7)
theorem ai_ltg (hw : Wd F) {t j : Nat} {b want : Bool} (hop : (ops[j]?).bind (·.dst) = some t) (hv : lk st.env t = some (.bool b)) (hb : b = want) (h : Lt P ⟨st.env, st.bx, [], st.fs⟩ ⟨some d, op, ty, pos, aft, some (j, want)⟩ v) (hd : Nat.blt d N = true) (hdf : ∀ c, op ≠ .defer c)
  (k : AtI Ft inv N (st.put d v) (wpListIn F n P ops Q rest)) : AtI Ft inv N st (wpListIn F n P ops Q (⟨some d, op, ty, pos, aft, some (j, want)⟩ :: rest)) := by
 intro a w h1 h2 h3 h4 h5 h6 h7
 have hwt : Region.wanted ⟨some d, op, ty, pos, aft, some (j, want)⟩ (yielded ops a.tmps) = true := by
  simp [Region.wanted, yielded, hop, h3 t _ hv, hb]
 refine wpListIn_step fun K hK => ?_
 rw [if_pos hwt]
 refine wpIn_run hw hdf ?_
 rw [h a w h3 ⟨h4, fun f hf => ⟨_, h5 f hf⟩⟩]
 exact hK _ _ (k _ w (by simpa [Act.put] using h1) (by simpa [Act.put] using h2) (lk_put h2 (by simpa using hd) h3) h4 h5 h6 h7)
theorem ai_off (hw : Wd F) {t j : Nat} {b want : Bool} (hop : (ops[j]?).bind (·.dst) = some t) (hv : lk st.env t = some (.bool b)) (hb : b = !want) (hd : Nat.blt d N = true)
  (k : AtI Ft inv N (st.put d undef) (wpListIn F n P ops Q rest)) : AtI Ft inv N st (wpListIn F n P ops Q (⟨some d, op, ty, pos, aft, some (j, want)⟩ :: rest)) := by
 intro a w h1 h2 h3 h4 h5 h6 h7
 have hwt : Region.wanted ⟨some d, op, ty, pos, aft, some (j, want)⟩ (yielded ops a.tmps) = false := by
  simp [Region.wanted, yielded, hop, h3 t _ hv, hb]
 refine wpListIn_step fun K hK => ?_
 rw [if_neg (by rw [hwt]; decide)]
 exact ⟨fun f _ => hw.fn f, hK _ _ (k _ w (by simpa [Act.put] using h1) (by simpa [Act.put] using h2) (lk_put h2 (by simpa using hd) h3) h4 h5 h6 h7)⟩
/-- A variable that is made and filled at once. -/
theorem ai_allocst (hw : Wd F) {t : TypeId} {z : Value} {sz by_ : Nat} {agg : Bool} {y : Operand} {u : Value} {cs : List Value} {ty' : Nat} {pos' : String} {aft' : Array Edge} (ht : tinf P t = some (z, sz, by_, agg)) (hz : z.cells.toList.length = sz)
  (hy : opv ((d, .pointer none) :: st.env) y = some u) (hyd : y ≠ .tmp d) (hc : u.cells.toList = cs) (hl : cs.length = sz) (h1 : cs.all Value.oneCell' = true) (hd : Nat.blt d N = true) (hg : GrowI inv)
  (k : ∀ b, AtI Ft inv N ((st.addB ⟨b, cs, t⟩).put d (.pointer (some ((⟨b, 0, none⟩ : Addr).add 0)))) (wpListIn F n P ops Q rest)) :
  AtI Ft inv N st (wpListIn F n P ops Q (⟨some d, .alloc t, ty, pos, aft, none⟩ :: ⟨none, .store t (.tmp d) y, ty', pos', aft', none⟩ :: rest)) := by
 intro a w e1 e2 e3 e4 e5 e6 e7
 have hstore := run_storeCells_at P w.heap.size 0 t cs 0 z.cells (w.alloc (.cells z.cells t)) (heap_alloc_new w _) (by rw [Array.length_toList] at hz; omega) (fun v hv => List.all_eq_true.1 h1 v hv)
 have hcut : z.cells.toList.take 0 ++ cs ++ z.cells.toList.drop (0 + cs.length) = cs := by
  rw [Nat.zero_add, List.drop_eq_nil_of_le (by omega)]; simp
 simp only [Nat.add_zero] at hstore
 rw [hcut] at hstore
 refine wpListIn_plain rfl fun K hK => wpIn_run hw (fun c h => by cases h) ?_
 have hrun1 : (execOp a.eval ⟨some d, .alloc t, ty, pos, aft, none⟩).run P w = .ok (.value (.pointer (some ⟨w.heap.size, 0, none⟩))) (w.alloc (.cells z.cells t)) := by
  simp [execOp, Instr.alloc, run_zero ht, newVar, newRow]
 rw [hrun1]
 refine hK _ _ (wpListIn_plain rfl fun K2 hK2 => wpIn_run hw (fun c h => by cases h) ?_)
 have hput : ∀ i v, lk ((d, .pointer (some ⟨w.heap.size, 0, none⟩)) :: st.env) i = some v → (a.put (some d) (.pointer (some ⟨w.heap.size, 0, none⟩))).tmps[i]? = some v := lk_put e2 (by simpa using hd) e3
 have hey : (a.put (some d) (.pointer (some ⟨w.heap.size, 0, none⟩))).eval y = u := by
  refine eval_of hput ?_
  cases y with
  | tmp i =>
   simp only [opv, lk] at hy ⊢
   have hne : Nat.beq d i = false := by
    cases hb : Nat.beq d i
    ·rfl
    ·exact absurd (by rw [Nat.eq_of_beq_eq_true hb]) hyd
   rw [hne] at hy ⊢
   exact hy
  | const c => exact hy
  | global g => exact hy
  | func f => exact hy
 have hed : (a.put (some d) (.pointer (some ⟨w.heap.size, 0, none⟩))).eval (.tmp d) = .pointer (some ⟨w.heap.size, 0, none⟩) := eval_of hput (by simp [opv, lk])
 have hsz : u.cells.size = sz := by rw [← hl, ← hc, Array.length_toList]
 have hrun2 : (execOp (a.put (some d) (.pointer (some ⟨w.heap.size, 0, none⟩))).eval ⟨none, .store t (.tmp d) y, ty', pos', aft', none⟩).run P (w.alloc (.cells z.cells t)) = .ok .skip ((w.alloc (.cells z.cells t)).setRow w.heap.size cs.toArray) := by
  simp [execOp, hed, hey, Instr.storeAt, Instr.sureAddr, storeVar, run_sizeOf ht, hsz, hc, hstore]
 rw [hrun2]
 have hgr : w.grownBy ((w.alloc (.cells z.cells t)).setRow w.heap.size cs.toArray) none :=
  ⟨rfl, rfl, rfl, by simp only [World.setRow, World.alloc, Array.size_modify, Array.size_push]; omega, fun i hi _ => (setRow_other _ _ _ _ (by omega)).trans (World.grownBy_alloc w _ none |>.block i hi (by simp))⟩
 have hk := k w.heap.size
 simp only [add_zero'] at hk
 refine hK2 _ _ (hk _ _ (by simpa [Act.put] using e1) (by simpa [Act.put] using e2) ?_ ?_ ?_ ?_ (hg _ _ e7 hgr))
 ·exact hput
 ·intro b hb
  rcases List.mem_cons.1 hb with rfl | hb
  ·exact setRow_heap _ _ _ _ t (0, 0) (heap_alloc_new w _)
  ·exact box_keep (e4 b hb) (hgr.block _ (box_lt (e4 b hb)) (by simp))
 ·intro f hf
  exact f.mv (e5 f hf) fun i hi => ⟨hi, hgr.block _ (e6 i hi) (by simp)⟩
 ·intro i hi
  exact Nat.lt_of_lt_of_le (e6 i hi) hgr.size

theorem ai_nil (k : AtI Ft inv N st (Q .normal)) : AtI Ft inv N st (wpListIn F n P ops Q []) := k
theorem AtI.imp {p q : Act → World → Prop} (h : AtI Ft inv N st p) (k : ∀ a w, p a w → q a w) : AtI Ft inv N st q := fun a w h1 h2 h3 h4 h5 h6 h7 => k a w (h a w h1 h2 h3 h4 h5 h6 h7)
theorem ai_region {id : Nat} {l : List Oper} (k : AtI Ft inv N st (wpListIn F n P l.toArray Q l)) : AtI Ft inv N st ((Code.region id l.toArray false).wpIn F n P Q) := k.imp fun _ _ h => wpIn_region_lit h
theorem ai_seq {x y : Code} (k : AtI Ft inv N st (x.wpIn F n P (Exit.then (y.wpIn F n P Q) Q))) : AtI Ft inv N st ((Code.seq x y).wpIn F n P Q) := k.imp fun _ _ h => wpIn_seq h
theorem ai_sr {id : Nat} {l : List Oper} {y : Code} (k : AtI Ft inv N st (wpListIn F n P l.toArray (Exit.then (y.wpIn F n P Q) Q) l)) : AtI Ft inv N st (((Code.region id l.toArray false).seq y).wpIn F n P Q) := ai_seq (ai_region k)
theorem ai_block {id : Nat} {c : Code} (k : AtI Ft inv N st (c.wpIn F n P (Exit.inBlock id Q))) : AtI Ft inv N st ((Code.block id c).wpIn F n P Q) := k.imp fun _ _ h => wpIn_block h
theorem ai_skip (k : AtI Ft inv N st (Q .normal)) : AtI Ft inv N st (Code.skip.wpIn F n P Q) := k.imp fun _ _ h => wpIn_skip h
theorem ai_exit {id : Nat} (k : AtI Ft inv N st (Q (.exit id))) : AtI Ft inv N st ((Code.exit id).wpIn F n P Q) := k.imp fun _ _ h => wpIn_exit h
theorem ai_ret (k : AtI Ft inv N st (Q .ret)) : AtI Ft inv N st (Code.ret.wpIn F n P Q) := k.imp fun _ _ h => wpIn_ret h
theorem ai_true {c : Operand} {x y : Code} {b : Bool} (hc : opv st.env c = some (.bool b)) (hb : b = true) (k : AtI Ft inv N st (x.wpIn F n P Q)) : AtI Ft inv N st ((Code.cond c x y).wpIn F n P Q) := by
 subst hb
 exact fun a w h1 h2 h3 h4 h5 h6 h7 => wpIn_cond_true (eval_of h3 hc) (k a w h1 h2 h3 h4 h5 h6 h7)
theorem ai_false {c : Operand} {x y : Code} {b : Bool} (hc : opv st.env c = some (.bool b)) (hb : b = false) (k : AtI Ft inv N st (y.wpIn F n P Q)) : AtI Ft inv N st ((Code.cond c x y).wpIn F n P Q) := by
 subst hb
 exact fun a w h1 h2 h3 h4 h5 h6 h7 => wpIn_cond_false (eval_of h3 hc) (k a w h1 h2 h3 h4 h5 h6 h7)
theorem ai_in_exit {id : Nat} (k : AtI Ft inv N st (Q .normal)) : AtI Ft inv N st (Exit.inBlock id Q (.exit id)) := k.imp fun _ _ h => by simpa [Exit.inBlock] using h
theorem ai_then_exit {K' : Act → World → Prop} {i : Nat} (k : AtI Ft inv N st (Q (.exit i))) : AtI Ft inv N st (Exit.then K' Q (.exit i)) := k
theorem ai_then_ret {K' : Act → World → Prop} (k : AtI Ft inv N st (Q .ret)) : AtI Ft inv N st (Exit.then K' Q .ret) := k
theorem ai_in_ret {id : Nat} (k : AtI Ft inv N st (Q .ret)) : AtI Ft inv N st (Exit.inBlock id Q .ret) := k
theorem ai_weak (st' : St) (k : AtI Ft inv N st' K) (he : SubE st'.env st.env) (hb : ∀ b ∈ st'.bx, b ∈ st.bx) (hf : ∀ f ∈ st'.fs, f ∈ st.fs) : AtI Ft inv N st K :=
 fun a w h1 h2 h3 h4 h5 h6 h7 => k a w h1 h2 (fun i v hv => h3 i v (he.lk i v hv)) (fun b hb' => h4 b (hb b hb')) (fun f hf' => h5 f (hf f hf')) h6 h7
theorem ai_open {A : Type} {f : Fact} (i : Nat) (hf : st.fs[i]? = some f) (E : A → Prop) (fcs : A → List Fact) (h : ∀ F w, f.P F w → ∃ s, E s ∧ ∀ f' ∈ fcs s, f'.P F w)
  (k : ∀ s, E s → AtI Ft inv N { st with fs := fcs s ++ st.fs } K) : AtI Ft inv N st K := fun a w h1 h2 h3 h4 h5 h6 h7 => by
 obtain ⟨s, hE, hs⟩ := h _ w (h5 f (List.mem_of_getElem? hf))
 exact k s hE a w h1 h2 h3 h4 (fun f' hf' => (List.mem_append.1 hf').elim (hs f') (h5 f')) h6 h7
theorem ai_elem (i : Nat) {α : Type} {E : Ty α} {xs : List α} {xd : α} {v : Value} {ix : Int}
  (hf : st.fs[i]? = some (E.slice.fact xs [v])) (hat : at? xs ix = some xd)
  (k : ∀ p ec, PtrAt v E.sz ix xs.length p → AtI Ft inv N ((st.addF (peek p ec)).addF (E.fact xd ec)) K) : AtI Ft inv N st K := by
 have h0 : 0 ≤ ix := (at?_lt hat).1
 have hget : xs[ix.toNat]? = some xd := by unfold at? at hat; rwa [if_pos h0] at hat
 intro a w h1 h2 h3 h4 h5 h6 h7
 obtain ⟨A, c, hcs, hlen, _, _, hel⟩ := h5 _ (List.mem_of_getElem? hf)
 obtain ⟨ad, ec, rfl, hR, hc⟩ := hel _ _ hget
 injection hcs with hv
 have hlt := (List.getElem?_eq_some_iff.1 hget).1
 refine k (ad.add (ix.toNat * E.sz)) ec ⟨ad, c, hv, h0, by omega, rfl⟩ a w h1 h2 h3 h4 (fun f hf' => ?_) h6 h7
 rcases List.mem_cons.1 hf' with rfl | hf'
 ·exact hR
 ·rcases List.mem_cons.1 hf' with rfl | hf'
  ·intro j u hu
   rw [add_block, add_add']
   exact hc j u hu
  ·exact h5 f hf'
theorem ai_inv {α : Type} {T : Ty α} {xd : α} {cs : List Value} (i : Nat) (hf : st.fs[i]? = some (T.fact xd cs)) (k : T.inv xd → AtI Ft inv N st K) : AtI Ft inv N st K :=
 fun a w h1 h2 h3 h4 h5 h6 h7 => k (T.pure (h5 _ (List.mem_of_getElem? hf))) a w h1 h2 h3 h4 h5 h6 h7

/-- A loop that counts up to m. -/
theorem ai_loop {body : Code} (S : Nat → St) (I : Nat → World → Prop) (m : Nat)
  (hb : ∀ i, i ≤ m → AtI Ft (I i) N (S i) (body.wpIn F n P (Exit.then (fun a w => i < m ∧ ∃ (_ : a.defers = []) (_ : a.tmps.size = N), (∀ j v, lk (S (i + 1)).env j = some v → a.tmps[j]? = some v) ∧ (∀ b ∈ (S (i + 1)).bx, b.ok w) ∧ (∀ f ∈ (S (i + 1)).fs, f.P Ft w) ∧ (∀ k, Ft k → k < w.heap.size) ∧ I (i + 1) w) Q))) :
  AtI Ft (I 0) N (S 0) ((Code.loop body).wpIn F n P Q) := by
 intro a w h1 h2 h3 h4 h5 h6 h7
 refine wpIn_loop_rounds (m + 1) ?_
 have key : ∀ r i a w, i + r = m + 1 → i ≤ m → a.defers = [] → a.tmps.size = N → (∀ j v, lk (S i).env j = some v → a.tmps[j]? = some v) → (∀ b ∈ (S i).bx, b.ok w) → (∀ f ∈ (S i).fs, f.P Ft w) → (∀ k, Ft k → k < w.heap.size) → I i w → Code.roundsIn F n P body Q r a w := by
  intro r
  induction r with
  | zero => intro i a w hr hi; omega
  | succ r ih =>
   intro i a w hr hi g1 g2 g3 g4 g5 g6 g7
   rw [roundsIn_succ]
   refine Code.wpIn_mono (fun e a' w' q => ?_) (hb i hi a w g1 g2 g3 g4 g5 g6 g7)
   cases e with
   | normal => obtain ⟨hlt, k1, k2, k3, k4, k5, k6, k7⟩ := q; exact ih (i + 1) a' w' (by omega) (by omega) k1 k2 k3 k4 k5 k6 k7
   | _ => exact q
 exact key (m + 1) 0 a w (by omega) (by omega) h1 h2 h3 h4 h5 h6 h7
theorem ai_again {i m : Nat} {S : Nat → St} {I : Nat → World → Prop} (hi : i < m) (he : SubE (S (i + 1)).env st.env) (hb : ∀ b ∈ (S (i + 1)).bx, b ∈ st.bx) (hf : ∀ f ∈ (S (i + 1)).fs, f ∈ st.fs) (hI : ∀ w, inv w → I (i + 1) w) :
  AtI Ft inv N st (Exit.then (fun a w => i < m ∧ ∃ (_ : a.defers = []) (_ : a.tmps.size = N), (∀ j v, lk (S (i + 1)).env j = some v → a.tmps[j]? = some v) ∧ (∀ b ∈ (S (i + 1)).bx, b.ok w) ∧ (∀ f ∈ (S (i + 1)).fs, f.P Ft w) ∧ (∀ k, Ft k → k < w.heap.size) ∧ I (i + 1) w) Q .normal) :=
 fun a w h1 h2 h3 h4 h5 h6 h7 => ⟨hi, h1, h2, fun j v hv => h3 j v (he.lk j v hv), fun b hb' => h4 b (hb b hb'), fun f hf' => h5 f (hf f hf'), h6, hI w h7⟩
theorem ai_inv' {inv' : World → Prop} (h : ∀ w, inv w → inv' w) (k : AtI Ft inv' N st K) : AtI Ft inv N st K := fun a w h1 h2 h3 h4 h5 h6 h7 => k a w h1 h2 h3 h4 h5 h6 (h w h7)

/-- What a round that goes on keeps: the blocks Ft, and variables of type T. -/
def KpT (Ft : Nat → Prop) (T : TypeId) (W W' : World) : Prop := (∀ k : Nat, Ft k → W'.heap[k]? = W.heap[k]?) ∧ (∀ (k : Nat) (cs : Array Value), W.heap[k]? = some (Obj.cells cs T (0, 0)) → W'.heap[k]? = W.heap[k]?) ∧ W.heap.size ≤ W'.heap.size

theorem run_yield {a : Act} {f x : Operand} {l : Nat} {v : Value} {tys : Array TypeId} {gd : Option (Nat × Bool)} (hf : a.eval f = .func (.yield l) #[] #[]) (hx : a.eval x = v) (w : World) :
  (execOp a.eval ⟨some d, .call ⟨.value f, #[x], tys⟩, ty, pos, aft, gd⟩).run P w = (Instr.yield l #[v]).run P w := by
 simp [execOp, resolve, hf, Deferred.ofValue, invoke, hx]
/-- A call of yield. -/
theorem ai_yield (hw : Wd F) {T : TypeId} {f x : Operand} {l : Nat} {v : Value} {tys : Array TypeId} {gd : Option (Nat × Bool)} {inv1 inv2 : World → Prop} {bx' : List Box}
  (hgd : (gd = none) ∨ ∃ t j b want, gd = some (j, want) ∧ (ops[j]?).bind (·.dst) = some t ∧ lk st.env t = some (.bool b) ∧ b = want)
  (hf : opv st.env f = some (.func (.yield l) #[] #[])) (hx : opv st.env x = some v) (hd : Nat.blt d N = true) (hbx : ∀ b ∈ bx', b ∈ st.bx ∧ b.t = T)
  (hY : ∀ w, inv w → YieldAt F (n - 1) P l #[v] w fun e W' => (e = .returned (.bool true) ∧ inv1 W' ∧ KpT Ft T w W') ∨ (e = .returned (.bool false) ∧ inv2 W'))
  (k1 : AtI Ft inv1 N ({ st with bx := bx' }.put d (.bool true)) (wpListIn F n P ops Q rest))
  (k2 : AtI (fun _ => False) inv2 N ({ st with bx := [], fs := [] }.put d (.bool false)) (wpListIn F n P ops Q rest)) :
  AtI Ft inv N st (wpListIn F n P ops Q (⟨some d, .call ⟨.value f, #[x], tys⟩, ty, pos, aft, gd⟩ :: rest)) := by
 intro a w h1 h2 h3 h4 h5 h6 h7
 have hwt : Region.wanted ⟨some d, .call ⟨.value f, #[x], tys⟩, ty, pos, aft, gd⟩ (yielded ops a.tmps) = true := by
  rcases hgd with rfl | ⟨t, j, b, want, rfl, hop, hv, hb⟩
  ·simp [Region.wanted]
  ·simp [Region.wanted, yielded, hop, h3 t _ hv, hb]
 refine wpListIn_step fun K hK => ?_
 rw [if_pos hwt]
 refine wpIn_run hw (fun c h => by cases h) ?_
 rw [run_yield (eval_of h3 hf) (eval_of h3 hx)]
 obtain ⟨fn, tmps, assign, body, hy, hR⟩ := hY w h7
 rw [hy, Oper.uponIn_round]
 refine ⟨fun h => (by rw [hw.depth] at h; cases h), hR.mono ?_⟩
 rintro e W' (⟨rfl, hi, hk⟩ | ⟨rfl, hi⟩)
 ·refine hK _ _ (k1 _ W' (by simpa [Act.put] using h1) (by simpa [Act.put] using h2) (lk_put h2 (by simpa using hd) h3) (fun b hb => ?_) (fun f' hf' => ?_) (fun i hi' => Nat.lt_of_lt_of_le (h6 i hi') hk.2.2) hi)
  ·obtain ⟨hb1, hb2⟩ := hbx b hb
   have := h4 b hb1
   exact box_keep this (hk.2.1 b.b b.cs.toArray (by subst hb2; exact this))
  ·exact f'.mv (h5 f' hf') fun i hi' => ⟨hi', hk.1 i hi'⟩
 ·exact hK _ _ (k2 _ W' (by simpa [Act.put] using h1) (by simpa [Act.put] using h2) (lk_put h2 (by simpa using hd) h3) (fun b hb => (by cases hb)) (fun f' hf' => (by cases hf')) (fun _ h => h.elim) hi)
theorem ai_one {α : Type} {T : Ty α} {xd : α} {v : Value} (i : Nat) (hf : st.fs[i]? = some (T.fact xd [v])) (k : v.oneCell' = true → AtI Ft inv N st K) : AtI Ft inv N st K :=
 fun a w h1 h2 h3 h4 h5 h6 h7 => k (T.one (h5 _ (List.mem_of_getElem? hf)) v (by simp)) a w h1 h2 h3 h4 h5 h6 h7
theorem ai_start {f : FuncId} {fn : Func} {c : Code} {args : List Value} {R : Ending → World → Prop} (W : World) (fs : List Fact) (hf : P.funcs[f]? = some fn) (hb : fn.body = some c) (hN : fn.ntmps = N) (ha : Nat.ble args.length N = true)
  (hfs : ∀ f ∈ fs, f.P Ft W) (hFt : ∀ k, Ft k → k < W.heap.size) (hI : inv W) (k : AtI Ft inv N ⟨argEnv 0 args, [], [], fs⟩ (c.wpIn Fence.wide n P (bodyPost P fn R))) : CallsIn Fence.wide n P f args.toArray W R := by
 refine callsIn_of_wp hf hb trivial ?_ rfl
 have ha' : args.length ≤ N := by simpa using ha
 refine k _ W rfl ?_ ?_ (fun b hb => by cases hb) hfs hFt hI
 ·subst hN; simp; omega
 ·intro i v hv
  obtain ⟨_, h3⟩ := lk_argEnv args 0 i v hv
  have hlt := (List.getElem?_eq_some_iff.1 h3).1
  simp only [Nat.sub_zero] at h3 hlt
  rw [Array.getElem?_append_left (by simpa using hlt)]
  simpa using h3
theorem ai_end {fn : Func} {R : Ending → World → Prop} (hr : fn.results = #[]) (h : ∀ w, inv w → R (.returned (.tuple #[])) w) : AtI Ft inv N st (bodyPost P fn R .normal) :=
 fun a w h1 _ _ _ _ _ h7 => ⟨h1, _, by unfold results; rw [hr]; simp, h w h7⟩
theorem ai_endr {fn : Func} {R : Ending → World → Prop} (hr : fn.results = #[]) (h : ∀ w, inv w → R (.returned (.tuple #[])) w) : AtI Ft inv N st (bodyPost P fn R .ret) :=
 fun a w h1 _ _ _ _ _ h7 => ⟨h1, _, by unfold results; rw [hr]; simp, h w h7⟩
end
end Go.WK
