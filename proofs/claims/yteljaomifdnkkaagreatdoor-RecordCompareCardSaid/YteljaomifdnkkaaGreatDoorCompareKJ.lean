/- WK, part j: contracts with rows that are handed over, new rows with room, nil slices. No program in sight. -/
import Derived.Test.YteljaomifdnkkaaGreatDoorCompareKI
import Derived.Laws.MakeOwn
import Derived.Laws.Cover3
set_option linter.unusedSimpArgs false
set_option linter.unusedVariables false
namespace Go.WK
open Go.RowKit

def rmut (rw : List Row) (k : Nat) : Prop := ∃ r ∈ rw, r.blk = some k
def rsep (rw : List Row) : Prop := (rw.map Row.blk).Pairwise fun a b => a = none ∨ a ≠ b
def EndsG (w : World) (M0 : Nat → Prop) (rw : List Row) (post : Value → List Row → List Fact → Prop) (e : Ending) (w' : World) : Prop :=
  ∃ v rw' fs, e = .returned v ∧ post v rw' fs ∧ Ext (rmut rw) w w' ∧ (∀ r ∈ rw', r.ok w' ∧ ∀ k, r.blk = some k → ¬ M0 k ∧ (rmut rw k ∨ w.heap.size ≤ k)) ∧ rsep rw' ∧
    ∀ f ∈ fs, f.P (fun k => k < w'.heap.size ∧ ¬ M0 k ∧ ¬ rmut rw' k) w'
/-- A contract with rows: those come in to be written; what comes back is the caller's. -/
structure SpecG (P : Program) (f : FuncId) (args : List Value) (rw : List Row) (fs : List Fact) (post : Value → List Row → List Fact → Prop) : Prop where
  en : Enters P f
  ok : ∀ w M0, (∀ k, M0 k → k < w.heap.size) → (∀ r ∈ rw, r.ok w ∧ ∀ k, r.blk = some k → ¬ M0 k) → rsep rw → (∀ f ∈ fs, f.P (fun k => k < w.heap.size ∧ ¬ M0 k ∧ ¬ rmut rw k) w) → Calls P f args.toArray w (EndsG w M0 rw post)

theorem specG_start {P : Program} {f : FuncId} {fn : Func} {c : Code} {args : List Value} {rw : List Row} {fs : List Fact} {post : Value → List Row → List Fact → Prop} {N : Nat}
  (hf : P.funcs[f]? = some fn) (hn : (fn.name == "runtime.NumGoroutine") = false) (hb : fn.body = some c) (hN : fn.ntmps = N) (ha : Nat.ble args.length N = true)
  (h : ∀ g : Gh, g.S0 = rmut rw → At g N ⟨argEnv 0 args, [], rw, fs⟩ (c.wp P (bodyPost P fn (EndsG g.w0 g.M0 rw post)))) : SpecG P f args rw fs post := by
 refine ⟨⟨fn, hf, hn, by rw [hb]; rfl⟩, fun w M0 h1 hr hsep h2 => calls_of_wp hf hb ?_⟩
 have ha' : args.length ≤ N := by simpa using ha
 refine h ⟨w, rmut rw, M0⟩ rfl _ w rfl ?_ ?_ ?_
 ·subst hN; simp; omega
 ·intro i v hv
  obtain ⟨_, h3⟩ := lk_argEnv args 0 i v hv
  have hlt := (List.getElem?_eq_some_iff.1 h3).1
  simp only [Nat.sub_zero] at h3 hlt
  rw [Array.getElem?_append_left (by simpa using hlt)]
  simpa using h3
 ·refine ⟨h1, Ext.refl _ _, fun b hb => (by cases hb), fun r hr' => ⟨(hr r hr').1, fun k hk => ⟨.inl ⟨r, hr', hk⟩, (hr r hr').2 k hk⟩⟩, ?_, fun f hf => Fact.mv f (h2 f hf) fun k hk => ⟨⟨hk.1, hk.2.1, fun hm => ?_⟩, rfl⟩⟩
  ·unfold rsep at hsep; simp only [St.ids, List.map_nil, List.nil_append]; exact hsep
  ·rcases hm with ⟨_, hb, _⟩ | ⟨r, hr', he⟩
   ·cases hb
   ·exact hk.2.2 ⟨r, hr', he⟩

theorem mem_keep {α : Type} {l : List α} {m : List Bool} {x : α} (h : x ∈ keep m l) : x ∈ l := (keep_sub m l).subset h
theorem keep_apart {l : List Row} (hs : rsep l) : ∀ {m : List Bool} {a b : Row} {k : Nat}, a ∈ keep m l → b ∈ keep (m.map (!·)) l → a.blk = some k → b.blk ≠ some k := by
 induction l with
 | nil => intro m a b k ha; cases m with
  | nil => cases ha
  | cons x m => cases x <;> cases ha
 | cons r l ih =>
  unfold rsep at hs
  rw [List.map_cons, List.pairwise_cons] at hs
  intro m a b k ha hb hk he
  have hne : ∀ c ∈ l, r.blk = some k → c.blk = some k → False := fun c hc h1 h2 => by
   have := hs.1 c.blk (List.mem_map.2 ⟨c, hc, rfl⟩)
   rw [h1, h2] at this
   simp at this
  cases m with
  | nil => cases ha
  | cons x m =>
   cases x
   ·simp only [keep, List.map_cons, Bool.not_false] at ha hb
    rcases List.mem_cons.1 hb with rfl | hb
    ·exact hne a (mem_keep ha) he hk
    ·exact ih hs.2 ha hb hk he
   ·simp only [keep, List.map_cons, Bool.not_true] at ha hb
    rcases List.mem_cons.1 ha with rfl | ha
    ·exact hne b (mem_keep hb) hk he
    ·exact ih hs.2 ha hb hk he

section
variable {P : Program} {Q : Exit → Act → World → Prop} {g : Gh} {N : Nat} {st : St} {K : Act → World → Prop} {d ty : Nat} {f : Operand} {xs : List Operand} {tys : Array TypeId} {pos : String} {aft : Array Edge} {gd : Option (Nat × Bool)}
theorem Mdl.afterG {w w' : World} {m : List Bool} {rws rest rw' : List Row} {fs' : List Fact} (h4 : Mdl g st w) (hp : keep m st.rw = rws) (hrest : keep (m.map (!·)) st.rw = rest) (hext : Ext (rmut rws) w w')
  (hrw : ∀ r ∈ rw', r.ok w' ∧ ∀ k, r.blk = some k → ¬ (g.M0 k ∨ (st.mut k ∧ ¬ rmut rws k)) ∧ (rmut rws k ∨ w.heap.size ≤ k)) (hsep : rsep rw')
  (hfs : ∀ f ∈ fs', f.P (fun k => k < w'.heap.size ∧ ¬ (g.M0 k ∨ (st.mut k ∧ ¬ rmut rws k)) ∧ ¬ rmut rw' k) w') : Mdl g { st with rw := rw' ++ rest, fs := fs' ++ st.fs } w' := by
 have hs0 := h4.sep
 unfold St.ids at hs0
 rw [List.pairwise_append] at hs0
 have hrs : rsep st.rw := hs0.2.1
 have hpm : ∀ k, rmut rws k → st.mut k := fun k ⟨r, hr, hk⟩ => .inr ⟨r, mem_keep (by rw [hp]; exact hr), hk⟩
 have hrm : ∀ r ∈ rest, r ∈ st.rw := fun r hr => mem_keep (m := m.map (!·)) (by rw [hrest]; exact hr)
 have hrestp : ∀ r ∈ rest, ∀ k, r.blk = some k → ¬ rmut rws k := fun r hr k hk ⟨r', hr', hk'⟩ => keep_apart hrs (m := m) (by rw [hp]; exact hr') (by rw [hrest]; exact hr) hk' hk
 have hboxp : ∀ b ∈ st.bx, ¬ rmut rws b.b := fun b hb ⟨r', hr', hk'⟩ => by
  have := hs0.2.2 (some b.b) (List.mem_map.2 ⟨b, hb, rfl⟩) r'.blk (List.mem_map.2 ⟨r', mem_keep (by rw [hp]; exact hr'), rfl⟩)
  rw [hk'] at this
  simp at this
 have hmine : ∀ k, st.mut k → g.mine k := fun k hk => by
  rcases hk with ⟨b, hb, rfl⟩ | ⟨r, hr, hk⟩
  ·exact (h4.bxs b hb).2
  ·exact (h4.rws r hr).2 k hk
 refine ⟨h4.m0, h4.ext.trans hext (fun i hi => (hmine i (hpm i hi)).1), fun b hb => ⟨box_keep (h4.bxs b hb).1 (hext.block _ (box_lt (h4.bxs b hb).1) (hboxp b hb)), (h4.bxs b hb).2⟩, fun r hr => ?_, ?_, fun f' hf' => ?_⟩
 ·rcases List.mem_append.1 hr with hr | hr
  ·refine ⟨(hrw r hr).1, fun k hk => ?_⟩
   obtain ⟨h1, h2⟩ := (hrw r hr).2 k hk
   rcases h2 with h2 | h2
   ·exact hmine k (hpm k h2)
   ·exact ⟨.inr (Nat.le_trans h4.ext.size h2), fun hm => h1 (.inl hm)⟩
  ·have hr' := hrm r hr
   exact ⟨row_keep (h4.rws r hr').1 (fun k hk => hext.block _ (row_lt (h4.rws r hr').1 hk) (hrestp r hr k hk)), (h4.rws r hr').2⟩
 ·unfold St.ids
  simp only [List.map_append]
  refine List.pairwise_append.2 ⟨hs0.1, List.pairwise_append.2 ⟨hsep, ?_, fun a ha b hb => ?_⟩, fun a ha b hb => ?_⟩
  ·refine hrs.sublist ?_
   rw [← hrest]
   exact (keep_sub _ _).map _
  ·obtain ⟨r, hr, rfl⟩ := List.mem_map.1 ha
   obtain ⟨q, hq, rfl⟩ := List.mem_map.1 hb
   cases hk : r.blk with
   | none => exact .inl rfl
   | some k =>
    refine .inr fun he => ?_
    rcases ((hrw r hr).2 k hk).2 with h2 | h2
    ·exact hrestp q hq k he.symm h2
    ·have := row_lt (h4.rws q (hrm q hq)).1 he.symm
     omega
  ·obtain ⟨b0, hb0, rfl⟩ := List.mem_map.1 ha
   refine .inr fun he => ?_
   rcases List.mem_append.1 hb with hb | hb
   ·obtain ⟨r, hr, hk⟩ := List.mem_map.1 hb
    rw [← he] at hk
    rcases ((hrw r hr).2 _ hk).2 with h2 | h2
    ·exact hboxp b0 hb0 h2
    ·have := box_lt (h4.bxs b0 hb0).1
     omega
   ·obtain ⟨r, hr, hk⟩ := List.mem_map.1 hb
    have := hs0.2.2 (some b0.b) (List.mem_map.2 ⟨b0, hb0, rfl⟩) r.blk (List.mem_map.2 ⟨r, hrm r hr, rfl⟩)
    rw [hk, ← he] at this
    simp at this
 ·rcases List.mem_append.1 hf' with hm | hm
  ·refine f'.mv (hfs f' hm) fun k hk => ⟨⟨hk.1, fun h => hk.2.1 (.inl h), fun hmut => ?_⟩, rfl⟩
   rcases hmut with ⟨b, hb, rfl⟩ | ⟨r, hr, hk'⟩
   ·exact hk.2.1 (.inr ⟨.inl ⟨b, hb, rfl⟩, hboxp b hb⟩)
   ·rcases List.mem_append.1 hr with hr | hr
    ·exact hk.2.2 ⟨r, hr, hk'⟩
    ·exact hk.2.1 (.inr ⟨.inr ⟨r, hrm r hr, hk'⟩, hrestp r hr k hk'⟩)
  ·refine f'.mv (h4.fcs f' hm) fun k hk => ⟨⟨Nat.lt_of_lt_of_le hk.1 hext.size, hk.2.1, fun hmut => ?_⟩, hext.block k hk.1 (fun h => hk.2.2 (hpm k h))⟩
   rcases hmut with ⟨b, hb, rfl⟩ | ⟨r, hr, hk'⟩
   ·exact hk.2.2 (.inl ⟨b, hb, rfl⟩)
   ·rcases List.mem_append.1 hr with hr | hr
    ·rcases ((hrw r hr).2 k hk').2 with h2 | h2
     ·exact hk.2.2 (hpm k h2)
     ·have := hk.1
      omega
    ·exact hk.2.2 (.inr ⟨r, hrm r hr, hk'⟩)

/-- A call that hands rows over. -/
theorem hv_callG {gid : FuncId} {caps vs : List Value} {fs : List Fact} {rws rest : List Row} {post : Value → List Row → List Fact → Prop} (m : List Bool) (is : List Nat) (hc : SpecG P gid (vs ++ caps) rws fs post)
  (hf : opv st.env f = some (.func (.func gid) #[] caps.toArray)) (hx : opvs st.env xs = some vs) (hp : keep m st.rw = rws) (hrest : keep (m.map (!·)) st.rw = rest) (hfs : sel st.fs is = fs) (hd : Nat.blt d N = true)
  (k : ∀ v rw' fs', post v rw' fs' → At g N (({ st with rw := rw' ++ rest, fs := fs' ++ st.fs } : St).put d v) K) :
  At g N st (fun a w => Oper.wp P ⟨some d, .call ⟨.value f, xs.toArray, tys⟩, ty, pos, aft, gd⟩ a w K Q) := by
 intro a w h1 h2 h3 h4
 unfold Oper.wp
 rw [run_call h3 hf hx hc.en]
 have hs0 := h4.sep
 unfold St.ids at hs0
 rw [List.pairwise_append] at hs0
 have hrs : rsep st.rw := hs0.2.1
 have hpm : ∀ k, rmut rws k → st.mut k := fun k ⟨r, hr, hk⟩ => .inr ⟨r, mem_keep (by rw [hp]; exact hr), hk⟩
 refine (hc.ok w (fun k => g.M0 k ∨ (st.mut k ∧ ¬ rmut rws k)) (fun k hk => hk.elim (fun h => h4.m0c k (.inl h)) (fun h => h4.m0c k (.inr h.1))) (fun r hr => ?_) ?_ (fun f' hf' => ?_)).mono ?_
 ·have hr' : r ∈ st.rw := mem_keep (by rw [hp]; exact hr)
  exact ⟨(h4.rws r hr').1, fun k hk h => h.elim (fun h => ((h4.rws r hr').2 k hk).2 h) (fun h => h.2 ⟨r, hr, hk⟩)⟩
 ·refine hrs.sublist ?_
  rw [← hp]
  exact (keep_sub _ _).map _
 ·exact f'.mv (h4.fcs f' (mem_sel (is := is) (by rw [hfs]; exact hf'))) fun k hk => ⟨⟨hk.1, fun h => h.elim hk.2.1 (fun h => hk.2.2 h.1), fun h => hk.2.2 (hpm k h)⟩, rfl⟩
 ·rintro e w' ⟨v, rw', fs', rfl, hpost, hext, hrw, hsep, hff⟩
  exact k v rw' fs' hpost _ w' (by simpa [Act.put] using h1) (by simpa [Act.put] using h2) (lk_put h2 (by simpa using hd) h3) (h4.afterG hp hrest hext hrw hsep hff).put
theorem hv_callG0 {gid : FuncId} {vs : List Value} {fs : List Fact} {rws rest : List Row} {post : Value → List Row → List Fact → Prop} (m : List Bool) (is : List Nat) (hc : SpecG P gid vs rws fs post)
  (hf : opv st.env f = some (.func (.func gid) #[] #[])) (hx : opvs st.env xs = some vs) (hp : keep m st.rw = rws) (hrest : keep (m.map (!·)) st.rw = rest) (hfs : sel st.fs is = fs) (hd : Nat.blt d N = true)
  (k : ∀ v rw' fs', post v rw' fs' → At g N (({ st with rw := rw' ++ rest, fs := fs' ++ st.fs } : St).put d v) K) :
  At g N st (fun a w => Oper.wp P ⟨some d, .call ⟨.value f, xs.toArray, tys⟩, ty, pos, aft, gd⟩ a w K Q) :=
 hv_callG (caps := []) m is (by simpa using hc) hf hx hp hrest hfs hd k

theorem at_returnG {fn : Func} {rs : List ResultVar} {vs : List Value} {rw rw' : List Row} {post : Value → List Row → List Fact → Prop} (v : Value) (m : List Bool) (is : List Nat) {fs : List Fact} (hS : g.S0 = rmut rw) (hr : fn.results = rs.toArray) (hv : RVs P st rs vs)
  (ht : (match vs with | [u] => u | us => .tuple us.toArray) = v) (hrw : keep m st.rw = rw') (hf : sel st.fs is = fs) (hp : post v rw' fs) : At g N st (bodyPost P fn (EndsG g.w0 g.M0 rw post) .ret) := by
 intro a w h1 h2 h3 h4
 have hs0 := h4.sep
 unfold St.ids at hs0
 rw [List.pairwise_append] at hs0
 refine ⟨h1, v, ?_, v, rw', fs, rfl, hp, by rw [← hS]; exact h4.ext, fun r hr' => ?_, ?_, fun f hf' => ?_⟩
 ·have h5 := run_RVs h3 h4 hv
  unfold results
  rw [hr, List.mapM_toArray]
  rw [Sem.run_bind, Sem.run_map]
  refine Eq.trans (b := Result.andThen (Result.ok vs.toArray w) fun vs w' => Sem.run P (pure (if h : vs.size = 1 then vs[0] else Value.tuple vs)) w') (congrArg (fun r => Result.andThen r _) ?_) ?_
  ·exact congrArg (fun r => Result.andThen r fun a w' => Result.ok a.toArray w') h5
  ·subst ht
   simp only [Result.andThen_ok, Sem.run_pure]
   cases vs with
   | nil => rfl
   | cons u us =>
    cases us with
    | nil => rfl
    | cons u' us' => rfl
 ·have hm : r ∈ st.rw := mem_keep (by rw [hrw]; exact hr')
  refine ⟨(h4.rws r hm).1, fun k hk => ?_⟩
  have h5 := (h4.rws r hm).2 k hk
  exact ⟨h5.2, h5.1.elim (fun h => .inl (by rw [← hS]; exact h)) .inr⟩
 ·refine List.Pairwise.sublist ?_ hs0.2.1
  rw [← hrw]
  exact (keep_sub _ _).map _
 ·exact f.mv (h4.fcs f (mem_sel (is := is) (by rw [hf]; exact hf'))) fun k hk => ⟨⟨hk.1, hk.2.1, fun ⟨r, hr', he⟩ => hk.2.2 (.inr ⟨r, mem_keep (by rw [hrw]; exact hr'), he⟩)⟩, rfl⟩

/-- 'make([]T, 0, c)'. -/
theorem hv_make0 {t e : Nat} {z : Value} {sz by_ : Nat} {agg : Bool} {x y : Operand} {kl kc : IntKind} {l cI : Int} (c : Nat) (hx : opv st.env x = some (.int kl l)) (hy : opv st.env y = some (.int kc cI)) (hl : l = 0) (hcI : cI = (c : Int)) (ht : P.underlying t = some (.slice e)) (he : tinf P e = some (z, sz, by_, agg)) (hb : by_ * c ≤ 281474976710656) (hm : c ≤ 9223372036854775807) (hd : Nat.blt d N = true)
  (k : ∀ v, At g N ((st.addR ⟨v, e, sz, 0, []⟩).put d v) K) : At g N st (fun a w => Oper.wp P ⟨some d, .makeSlice t x y, ty, pos, aft, gd⟩ a w K Q) := by
 subst hl hcI
 refine hv_step (fun v : Value => v) (fun v => st.addR ⟨v, e, sz, 0, []⟩) (fun a w h3 h4 => ?_) hd k
 obtain ⟨i, hi, hz, hs, hby⟩ := tinf_info he
 have hb' : (i.bytes : Int) * (c : Int) ≤ 281474976710656 := by
  subst hby
  have h : ((i.bytes * c : Nat) : Int) ≤ 281474976710656 := by omega
  rwa [Int.natCast_mul] at h
 have hr := run_make (P := P) w t e i z ht hi hz kl kc 0 c (Int.le_refl _) (by omega) hb' (by omega)
 simp only [Int.toNat_zero, Int.toNat_natCast] at hr
 refine ⟨.slice (some ⟨w.heap.size, 0, none⟩) 0 c, _, ?_, h4.newRow ⟨.slice (some ⟨w.heap.size, 0, none⟩) 0 c, e, sz, 0, []⟩ (madeCells z.cells (c * i.size)) e ?_ row_blk_new, rfl⟩
 ·simp only [execOp, eval_of h3 hx, eval_of h3 hy, Sem.run_bind, hr, Result.andThen_ok, Sem.run_pure]
 ·subst hs
  exact row_new (heap_alloc_new w _) (Nat.zero_le _) hm (size_madeCells _ _) (by simp)
end
end Go.WK
