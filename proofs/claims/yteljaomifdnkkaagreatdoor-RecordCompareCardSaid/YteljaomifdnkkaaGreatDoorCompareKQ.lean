/- WK, part q: contracts with boxes and rows that are handed over (a method of a variable of the caller's own). No program in sight. -/
import Derived.Test.YteljaomifdnkkaaGreatDoorCompareKO
set_option linter.unusedSimpArgs false
set_option linter.unusedVariables false
namespace Go.WK
open Go.RowKit
set_option linter.unusedVariables false
set_option linter.unusedSimpArgs false

def omut (bx : List Box) (rw : List Row) (k : Nat) : Prop := (∃ b ∈ bx, b.b = k) ∨ (∃ r ∈ rw, r.blk = some k)
def oids (bx : List Box) (rw : List Row) : List (Option Nat) := bx.map (fun b => some b.b) ++ rw.map Row.blk
def osep (bx : List Box) (rw : List Row) : Prop := (oids bx rw).Pairwise fun a b => a = none ∨ a ≠ b
def EndsH (w : World) (M0 : Nat → Prop) (bx : List Box) (rw : List Row) (post : Value → List Box → List Row → List Fact → Prop) (e : Ending) (w' : World) : Prop :=
  ∃ v bx' rw' fs, e = .returned v ∧ post v bx' rw' fs ∧ Ext (omut bx rw) w w' ∧ (∀ b ∈ bx', b.ok w' ∧ ¬ M0 b.b ∧ (omut bx rw b.b ∨ w.heap.size ≤ b.b)) ∧ (∀ r ∈ rw', r.ok w' ∧ ∀ k, r.blk = some k → ¬ M0 k ∧ (omut bx rw k ∨ w.heap.size ≤ k)) ∧ osep bx' rw' ∧
    ∀ f ∈ fs, f.P (fun k => k < w'.heap.size ∧ ¬ M0 k ∧ ¬ omut bx' rw' k) w'
/-- A contract with boxes and rows: those come in to be written; what comes back is the caller's. -/
structure SpecH (P : Program) (f : FuncId) (args : List Value) (bx : List Box) (rw : List Row) (fs : List Fact) (post : Value → List Box → List Row → List Fact → Prop) : Prop where
  en : Enters P f
  ok : ∀ w M0, (∀ k, M0 k → k < w.heap.size) → (∀ b ∈ bx, b.ok w ∧ ¬ M0 b.b) → (∀ r ∈ rw, r.ok w ∧ ∀ k, r.blk = some k → ¬ M0 k) → osep bx rw → (∀ f ∈ fs, f.P (fun k => k < w.heap.size ∧ ¬ M0 k ∧ ¬ omut bx rw k) w) → Calls P f args.toArray w (EndsH w M0 bx rw post)

theorem specH_start {P : Program} {f : FuncId} {fn : Func} {c : Code} {args : List Value} {bx : List Box} {rw : List Row} {fs : List Fact} {post : Value → List Box → List Row → List Fact → Prop} {N : Nat}
  (hf : P.funcs[f]? = some fn) (hn : (fn.name == "runtime.NumGoroutine") = false) (hb : fn.body = some c) (hN : fn.ntmps = N) (ha : Nat.ble args.length N = true)
  (h : ∀ g : Gh, g.S0 = omut bx rw → At g N ⟨argEnv 0 args, bx, rw, fs⟩ (c.wp P (bodyPost P fn (EndsH g.w0 g.M0 bx rw post)))) : SpecH P f args bx rw fs post := by
 refine ⟨⟨fn, hf, hn, by rw [hb]; rfl⟩, fun w M0 h1 hbx hr hsep h2 => calls_of_wp hf hb ?_⟩
 have ha' : args.length ≤ N := by simpa using ha
 refine h ⟨w, omut bx rw, M0⟩ rfl _ w rfl ?_ ?_ ?_
 ·subst hN; simp; omega
 ·intro i v hv
  obtain ⟨_, h3⟩ := lk_argEnv args 0 i v hv
  have hlt := (List.getElem?_eq_some_iff.1 h3).1
  simp only [Nat.sub_zero] at h3 hlt
  rw [Array.getElem?_append_left (by simpa using hlt)]
  simpa using h3
 ·exact ⟨h1, Ext.refl _ _, fun b hb => ⟨(hbx b hb).1, .inl (.inl ⟨b, hb, rfl⟩), (hbx b hb).2⟩, fun r hr' => ⟨(hr r hr').1, fun k hk => ⟨.inl (.inr ⟨r, hr', hk⟩), (hr r hr').2 k hk⟩⟩, hsep, fun f hf => Fact.mv f (h2 f hf) fun k hk => ⟨⟨hk.1, hk.2.1, hk.2.2⟩, rfl⟩⟩

theorem at_returnH {P : Program} {g : Gh} {N : Nat} {st : St} {fn : Func} {rs : List ResultVar} {vs : List Value} {bx bx' : List Box} {rw rw' : List Row} {post : Value → List Box → List Row → List Fact → Prop} (v : Value) (mb m : List Bool) (is : List Nat) {fs : List Fact} (hS : g.S0 = omut bx rw) (hr : fn.results = rs.toArray) (hv : RVs P st rs vs)
  (ht : (match vs with | [u] => u | us => .tuple us.toArray) = v) (hbx : keep mb st.bx = bx') (hrw : keep m st.rw = rw') (hf : sel st.fs is = fs) (hp : post v bx' rw' fs) : At g N st (bodyPost P fn (EndsH g.w0 g.M0 bx rw post) .ret) := by
 intro a w h1 h2 h3 h4
 have hs0 := h4.sep
 unfold St.ids at hs0
 have mine : ∀ k, g.mine k → ¬ g.M0 k ∧ (omut bx rw k ∨ g.w0.heap.size ≤ k) := fun k hk => ⟨hk.2, hk.1.elim (fun h => .inl (by rw [← hS]; exact h)) .inr⟩
 refine ⟨h1, v, ?_, v, bx', rw', fs, rfl, hp, by rw [← hS]; exact h4.ext, fun b hb => ?_, fun r hr' => ?_, ?_, fun f hf' => ?_⟩
 ·have h5 := run_RVs h3 h4 hv
  unfold results
  rw [hr, List.mapM_toArray]
  rw [Sem.run_bind, Sem.run_map]
  refine Eq.trans (b := Result.andThen (Result.ok vs.toArray w) fun vs w' => Sem.run P (pure (if h : vs.size = 1 then vs[0] else Value.tuple vs)) w') (congrArg (fun r => Result.andThen r _) ?_) ?_
  ·exact congrArg (fun r => Result.andThen r fun a w' => Result.ok a.toArray w') h5
  ·subst ht
   simp only [Result.andThen_ok, Sem.run_pure]
   cases vs with
   | nil => rfl
   | cons u us =>
    cases us with
    | nil => rfl
    | cons u' us' => rfl
 ·have hm : b ∈ st.bx := mem_keep (by rw [hbx]; exact hb)
  exact ⟨(h4.bxs b hm).1, mine _ (h4.bxs b hm).2⟩
 ·have hm : r ∈ st.rw := mem_keep (by rw [hrw]; exact hr')
  exact ⟨(h4.rws r hm).1, fun k hk => mine k ((h4.rws r hm).2 k hk)⟩
 ·refine List.Pairwise.sublist ?_ hs0
  rw [← hrw, ← hbx]
  exact ((keep_sub _ _).map _).append ((keep_sub _ _).map _)
 ·refine f.mv (h4.fcs f (mem_sel (is := is) (by rw [hf]; exact hf'))) fun k hk => ⟨⟨hk.1, hk.2.1, fun hm => hk.2.2 ?_⟩, rfl⟩
  rcases hm with ⟨b, hb, he⟩ | ⟨r, hr', he⟩
  ·exact .inl ⟨b, mem_keep (by rw [hbx]; exact hb), he⟩
  ·exact .inr ⟨r, mem_keep (by rw [hrw]; exact hr'), he⟩

theorem keep_apart' {α : Type} (φ : α → Option Nat) {l : List α} (hs : (l.map φ).Pairwise fun a b => a = none ∨ a ≠ b) : ∀ {m : List Bool} {a b : α} {k : Nat}, a ∈ keep m l → b ∈ keep (m.map (!·)) l → φ a = some k → φ b ≠ some k := by
 induction l with
 | nil => intro m a b k ha; cases m with
  | nil => cases ha
  | cons x m => cases x <;> cases ha
 | cons r l ih =>
  rw [List.map_cons, List.pairwise_cons] at hs
  intro m a b k ha hb hk he
  have hne : ∀ c ∈ l, φ r = some k → φ c = some k → False := fun c hc h1 h2 => by
   have := hs.1 (φ c) (List.mem_map.2 ⟨c, hc, rfl⟩)
   rw [h1, h2] at this
   simp at this
  cases m with
  | nil => cases ha
  | cons x m =>
   cases x
   ·simp only [keep, List.map_cons, Bool.not_false] at ha hb
    rcases List.mem_cons.1 hb with rfl | hb
    ·exact hne a (mem_keep ha) he hk
    ·exact ih hs.2 ha hb hk he
   ·simp only [keep, List.map_cons, Bool.not_true] at ha hb
    rcases List.mem_cons.1 ha with rfl | ha
    ·exact hne b (mem_keep hb) hk he
    ·exact ih hs.2 ha hb hk he

section
variable {P : Program} {Q : Exit → Act → World → Prop} {g : Gh} {N : Nat} {st : St} {K : Act → World → Prop} {d ty : Nat} {f : Operand} {xs : List Operand} {tys : Array TypeId} {pos : String} {aft : Array Edge} {gd : Option (Nat × Bool)}
theorem Mdl.afterH {w w' : World} {mb m : List Bool} {bxs restb bx' : List Box} {rws rest rw' : List Row} {fs' : List Fact} (h4 : Mdl g st w) (hpb : keep mb st.bx = bxs) (hrb : keep (mb.map (!·)) st.bx = restb) (hp : keep m st.rw = rws) (hrest : keep (m.map (!·)) st.rw = rest) (hext : Ext (omut bxs rws) w w')
  (hbx : ∀ b ∈ bx', b.ok w' ∧ ¬ (g.M0 b.b ∨ (st.mut b.b ∧ ¬ omut bxs rws b.b)) ∧ (omut bxs rws b.b ∨ w.heap.size ≤ b.b))
  (hrw : ∀ r ∈ rw', r.ok w' ∧ ∀ k, r.blk = some k → ¬ (g.M0 k ∨ (st.mut k ∧ ¬ omut bxs rws k)) ∧ (omut bxs rws k ∨ w.heap.size ≤ k)) (hsep : osep bx' rw')
  (hfs : ∀ f ∈ fs', f.P (fun k => k < w'.heap.size ∧ ¬ (g.M0 k ∨ (st.mut k ∧ ¬ omut bxs rws k)) ∧ ¬ omut bx' rw' k) w') : Mdl g { st with bx := bx' ++ restb, rw := rw' ++ rest, fs := fs' ++ st.fs } w' := by
 have hs0 := h4.sep
 unfold St.ids at hs0
 rw [List.pairwise_append] at hs0
 obtain ⟨hsb, hsr, hx⟩ := hs0
 have inB : ∀ b ∈ bxs, b ∈ st.bx := fun b hb => mem_keep (by rw [hpb]; exact hb)
 have inRB : ∀ b ∈ restb, b ∈ st.bx := fun b hb => mem_keep (m := mb.map (!·)) (by rw [hrb]; exact hb)
 have inR : ∀ r ∈ rws, r ∈ st.rw := fun r hr => mem_keep (by rw [hp]; exact hr)
 have inRR : ∀ r ∈ rest, r ∈ st.rw := fun r hr => mem_keep (m := m.map (!·)) (by rw [hrest]; exact hr)
 have cross : ∀ b ∈ st.bx, ∀ r ∈ st.rw, r.blk ≠ some b.b := fun b hb r hr he => by
  have := hx (some b.b) (List.mem_map.2 ⟨b, hb, rfl⟩) r.blk (List.mem_map.2 ⟨r, hr, rfl⟩)
  rw [he] at this
  simp at this
 have hpm : ∀ k, omut bxs rws k → st.mut k := fun k h => h.elim (fun ⟨b, hb, e⟩ => .inl ⟨b, inB b hb, e⟩) (fun ⟨r, hr, e⟩ => .inr ⟨r, inR r hr, e⟩)
 have hrbp : ∀ b ∈ restb, ¬ omut bxs rws b.b := by
  rintro b hb (⟨c, hc, e⟩ | ⟨r, hr, e⟩)
  ·exact keep_apart' (fun b : Box => some b.b) hsb (m := mb) (k := b.b) (by rw [hpb]; exact hc) (by rw [hrb]; exact hb) (by rw [e]) rfl
  ·exact cross b (inRB b hb) r (inR r hr) e
 have hrrp : ∀ r ∈ rest, ∀ k, r.blk = some k → ¬ omut bxs rws k := by
  rintro r hr k hk (⟨c, hc, e⟩ | ⟨q, hq, e⟩)
  ·exact cross c (inB c hc) r (inRR r hr) (by rw [hk, e])
  ·exact keep_apart' Row.blk hsr (m := m) (by rw [hp]; exact hq) (by rw [hrest]; exact hr) e hk
 have hmine : ∀ k, st.mut k → g.mine k := fun k hk => by
  rcases hk with ⟨b, hb, rfl⟩ | ⟨r, hr, hk⟩
  ·exact (h4.bxs b hb).2
  ·exact (h4.rws r hr).2 k hk
 have hnew : ∀ k, ¬ (g.M0 k ∨ (st.mut k ∧ ¬ omut bxs rws k)) ∧ (omut bxs rws k ∨ w.heap.size ≤ k) → g.mine k := fun k ⟨h1, h2⟩ => by
  rcases h2 with h2 | h2
  ·exact hmine k (hpm k h2)
  ·exact ⟨.inr (Nat.le_trans h4.ext.size h2), fun hm => h1 (.inl hm)⟩
 have old_lt : ∀ k, st.mut k → k < w.heap.size := fun k hk => by
  rcases hk with ⟨b, hb, rfl⟩ | ⟨r, hr, hk⟩
  ·exact box_lt (h4.bxs b hb).1
  ·exact row_lt (h4.rws r hr).1 hk
 have apart : ∀ k k', (omut bxs rws k ∨ w.heap.size ≤ k) → st.mut k' → ¬ omut bxs rws k' → k ≠ k' := fun k k' h1 h2 h3 e => by
  subst e
  rcases h1 with h1 | h1
  ·exact h3 h1
  ·have := old_lt k h2; omega
 refine ⟨h4.m0, h4.ext.trans hext (fun i hi => (hmine i (hpm i hi)).1), fun b hb => ?_, fun r hr => ?_, ?_, fun f' hf' => ?_⟩
 ·rcases List.mem_append.1 hb with hb | hb
  ·exact ⟨(hbx b hb).1, hnew b.b (hbx b hb).2⟩
  ·have hb' := inRB b hb
   exact ⟨box_keep (h4.bxs b hb').1 (hext.block _ (box_lt (h4.bxs b hb').1) (hrbp b hb)), (h4.bxs b hb').2⟩
 ·rcases List.mem_append.1 hr with hr | hr
  ·exact ⟨(hrw r hr).1, fun k hk => hnew k ((hrw r hr).2 k hk)⟩
  ·have hr' := inRR r hr
   exact ⟨row_keep (h4.rws r hr').1 (fun k hk => hext.block _ (row_lt (h4.rws r hr').1 hk) (hrrp r hr k hk)), (h4.rws r hr').2⟩
 ·unfold osep oids at hsep
  rw [List.pairwise_append] at hsep
  obtain ⟨s1, s2, s3⟩ := hsep
  have sb : (restb.map fun b => some b.b).Pairwise fun a b => a = none ∨ a ≠ b := by
   refine hsb.sublist ?_
   rw [← hrb]; exact (keep_sub _ _).map _
  have sr : (rest.map Row.blk).Pairwise fun a b => a = none ∨ a ≠ b := by
   refine hsr.sublist ?_
   rw [← hrest]; exact (keep_sub _ _).map _
  unfold St.ids
  simp only [List.map_append]
  have nb : ∀ b ∈ bx', omut bxs rws b.b ∨ w.heap.size ≤ b.b := fun b hb => (hbx b hb).2.2
  have nr : ∀ r ∈ rw', ∀ k, r.blk = some k → omut bxs rws k ∨ w.heap.size ≤ k := fun r hr k hk => ((hrw r hr).2 k hk).2
  have mb_ : ∀ b ∈ restb, st.mut b.b := fun b hb => .inl ⟨b, inRB b hb, rfl⟩
  have mr_ : ∀ r ∈ rest, ∀ k, r.blk = some k → st.mut k := fun r hr k hk => .inr ⟨r, inRR r hr, hk⟩
  refine List.pairwise_append.2 ⟨List.pairwise_append.2 ⟨s1, sb, ?_⟩, List.pairwise_append.2 ⟨s2, sr, ?_⟩, ?_⟩
  ·intro a ha b hb
   obtain ⟨x, hx', rfl⟩ := List.mem_map.1 ha
   obtain ⟨y, hy, rfl⟩ := List.mem_map.1 hb
   exact .inr fun e => apart x.b y.b (nb x hx') (mb_ y hy) (hrbp y hy) (Option.some.inj e)
  ·intro a ha b hb
   obtain ⟨x, hx', rfl⟩ := List.mem_map.1 ha
   obtain ⟨y, hy, rfl⟩ := List.mem_map.1 hb
   cases hk : x.blk with
   | none => exact .inl rfl
   | some k => exact .inr fun e => apart k k (nr x hx' k hk) (mr_ y hy k e.symm) (hrrp y hy k e.symm) rfl
  ·intro a ha b hb
   rcases List.mem_append.1 ha with ha | ha <;> rcases List.mem_append.1 hb with hb | hb
   ·exact s3 a ha b hb
   ·obtain ⟨x, hx', rfl⟩ := List.mem_map.1 ha
    obtain ⟨y, hy, rfl⟩ := List.mem_map.1 hb
    exact .inr fun e => apart x.b x.b (nb x hx') (mr_ y hy x.b e.symm) (hrrp y hy x.b e.symm) rfl
   ·obtain ⟨x, hx', rfl⟩ := List.mem_map.1 ha
    obtain ⟨y, hy, rfl⟩ := List.mem_map.1 hb
    exact .inr fun e => apart x.b x.b (nr y hy x.b e.symm) (mb_ x hx') (hrbp x hx') rfl
   ·obtain ⟨x, hx', rfl⟩ := List.mem_map.1 ha
    obtain ⟨y, hy, rfl⟩ := List.mem_map.1 hb
    exact hx _ (List.mem_map.2 ⟨x, inRB x hx', rfl⟩) _ (List.mem_map.2 ⟨y, inRR y hy, rfl⟩)
 ·have notrest : ∀ k, St.mut { st with bx := bx' ++ restb, rw := rw' ++ rest, fs := fs' ++ st.fs } k → omut bx' rw' k ∨ (st.mut k ∧ ¬ omut bxs rws k) := by
   rintro k (⟨b, hb, rfl⟩ | ⟨r, hr, hk⟩)
   ·rcases List.mem_append.1 hb with hb | hb
    ·exact .inl (.inl ⟨b, hb, rfl⟩)
    ·exact .inr ⟨.inl ⟨b, inRB b hb, rfl⟩, hrbp b hb⟩
   ·rcases List.mem_append.1 hr with hr | hr
    ·exact .inl (.inr ⟨r, hr, hk⟩)
    ·exact .inr ⟨.inr ⟨r, inRR r hr, hk⟩, hrrp r hr k hk⟩
  rcases List.mem_append.1 hf' with hm | hm
  ·refine f'.mv (hfs f' hm) fun k hk => ⟨⟨hk.1, fun h => hk.2.1 (.inl h), fun hmut => ?_⟩, rfl⟩
   rcases notrest k hmut with h | h
   ·exact hk.2.2 h
   ·exact hk.2.1 (.inr h)
  ·refine f'.mv (h4.fcs f' hm) fun k hk => ⟨⟨Nat.lt_of_lt_of_le hk.1 hext.size, hk.2.1, fun hmut => ?_⟩, hext.block k hk.1 (fun h => hk.2.2 (hpm k h))⟩
   rcases notrest k hmut with h | h
   ·rcases h with ⟨b, hb, rfl⟩ | ⟨r, hr, hk'⟩
    ·rcases (hbx b hb).2.2 with h2 | h2
     ·exact hk.2.2 (hpm _ h2)
     ·have := hk.1; omega
    ·rcases ((hrw r hr).2 k hk').2 with h2 | h2
     ·exact hk.2.2 (hpm k h2)
     ·have := hk.1; omega
   ·exact hk.2.2 h.1

/-- A call that hands boxes and rows over. -/
theorem hv_callH {gid : FuncId} {caps vs : List Value} {fs : List Fact} {bxs restb : List Box} {rws rest : List Row} {post : Value → List Box → List Row → List Fact → Prop} (mb m : List Bool) (is : List Nat) (hc : SpecH P gid (vs ++ caps) bxs rws fs post)
  (hf : opv st.env f = some (.func (.func gid) #[] caps.toArray)) (hx : opvs st.env xs = some vs) (hpb : keep mb st.bx = bxs) (hrb : keep (mb.map (!·)) st.bx = restb) (hp : keep m st.rw = rws) (hrest : keep (m.map (!·)) st.rw = rest) (hfs : sel st.fs is = fs) (hd : Nat.blt d N = true)
  (k : ∀ v bx' rw' fs', post v bx' rw' fs' → At g N (({ st with bx := bx' ++ restb, rw := rw' ++ rest, fs := fs' ++ st.fs } : St).put d v) K) :
  At g N st (fun a w => Oper.wp P ⟨some d, .call ⟨.value f, xs.toArray, tys⟩, ty, pos, aft, gd⟩ a w K Q) := by
 intro a w h1 h2 h3 h4
 unfold Oper.wp
 rw [run_call h3 hf hx hc.en]
 have hs0 := h4.sep
 unfold St.ids at hs0
 have inB : ∀ b ∈ bxs, b ∈ st.bx := fun b hb => mem_keep (by rw [hpb]; exact hb)
 have inR : ∀ r ∈ rws, r ∈ st.rw := fun r hr => mem_keep (by rw [hp]; exact hr)
 have hpm : ∀ k, omut bxs rws k → st.mut k := fun k h => h.elim (fun ⟨b, hb, e⟩ => .inl ⟨b, inB b hb, e⟩) (fun ⟨r, hr, e⟩ => .inr ⟨r, inR r hr, e⟩)
 refine (hc.ok w (fun k => g.M0 k ∨ (st.mut k ∧ ¬ omut bxs rws k)) (fun k hk => hk.elim (fun h => h4.m0c k (.inl h)) (fun h => h4.m0c k (.inr h.1))) (fun b hb => ?_) (fun r hr => ?_) ?_ (fun f' hf' => ?_)).mono ?_
 ·exact ⟨(h4.bxs b (inB b hb)).1, fun h => h.elim (fun h => (h4.bxs b (inB b hb)).2.2 h) (fun h => h.2 (.inl ⟨b, hb, rfl⟩))⟩
 ·exact ⟨(h4.rws r (inR r hr)).1, fun k hk h => h.elim (fun h => ((h4.rws r (inR r hr)).2 k hk).2 h) (fun h => h.2 (.inr ⟨r, hr, hk⟩))⟩
 ·refine List.Pairwise.sublist ?_ hs0
  rw [← hp, ← hpb]
  exact ((keep_sub _ _).map _).append ((keep_sub _ _).map _)
 ·exact f'.mv (h4.fcs f' (mem_sel (is := is) (by rw [hfs]; exact hf'))) fun k hk => ⟨⟨hk.1, fun h => h.elim hk.2.1 (fun h => hk.2.2 h.1), fun h => hk.2.2 (hpm k h)⟩, rfl⟩
 ·rintro e w' ⟨v, bx', rw', fs', rfl, hpost, hext, hbx, hrw, hsep, hff⟩
  exact k v bx' rw' fs' hpost _ w' (by simpa [Act.put] using h1) (by simpa [Act.put] using h2) (lk_put h2 (by simpa using hd) h3) (h4.afterH hpb hrb hp hrest hext hbx hrw hsep hff).put
theorem hv_callH0 {gid : FuncId} {vs : List Value} {fs : List Fact} {bxs restb : List Box} {rws rest : List Row} {post : Value → List Box → List Row → List Fact → Prop} (mb m : List Bool) (is : List Nat) (hc : SpecH P gid vs bxs rws fs post)
  (hf : opv st.env f = some (.func (.func gid) #[] #[])) (hx : opvs st.env xs = some vs) (hpb : keep mb st.bx = bxs) (hrb : keep (mb.map (!·)) st.bx = restb) (hp : keep m st.rw = rws) (hrest : keep (m.map (!·)) st.rw = rest) (hfs : sel st.fs is = fs) (hd : Nat.blt d N = true)
  (k : ∀ v bx' rw' fs', post v bx' rw' fs' → At g N (({ st with bx := bx' ++ restb, rw := rw' ++ rest, fs := fs' ++ st.fs } : St).put d v) K) :
  At g N st (fun a w => Oper.wp P ⟨some d, .call ⟨.value f, xs.toArray, tys⟩, ty, pos, aft, gd⟩ a w K Q) :=
 hv_callH (caps := []) mb m is (by simpa using hc) hf hx hpb hrb hp hrest hfs hd k
end

/-! ### one more operation -/
section
variable {P : Program} {st : St} {ty T : Nat} {x : Operand} {pos : String} {aft : Array Edge} {dst : Option Nat} {gd : Option (Nat × Bool)}
theorem lt_neg {kd : IntKind} {a : Int} (hx : opv st.env x = some (.int kd a)) : Lt P st ⟨dst, .unOp .neg T x, ty, pos, aft, gd⟩ (.int kd (kd.wrap (0 - a))) :=
 (fun a' w h3 _ => by simp [execOp, eval_of h3 hx, Op.unary, Op.intArith, Sem.run_pure])
end

theorem u8row_inner {xs : List UInt8} {inner : List Value} {F : Nat → Prop} {w : World} (h : (Ty.u8.row xs inner).P F w) : inner = xs.map fun c => .int .u8 (c.toNat : Int) := by
 obtain ⟨hl, hx⟩ := h
 have hl' : inner.length = xs.length * 1 := hl
 rw [Nat.mul_one] at hl'
 apply List.ext_getElem
 ·rw [hl', List.length_map]
 ·intro i h1 h2
  have hi : i < xs.length := by omega
  obtain ⟨e, _⟩ := hx i xs[i] (List.getElem?_eq_getElem hi)
  have e' : (inner.drop (i * 1)).take 1 = [.int .u8 (xs[i].toNat : Int)] := e
  rw [Nat.mul_one] at e'
  rw [List.drop_eq_getElem_cons h1, List.take_succ_cons, List.take_zero] at e'
  rw [List.getElem_map]
  exact (List.cons.inj e').1
section
variable {P : Program} {g : Gh} {N : Nat} {st : St} {ty : Nat} {x : Operand} {pos : String} {aft : Array Edge} {gd : Option (Nat × Bool)}
/-- 'string(b)', b a row of the call's own, read by its fact. -/
theorem lt_bstr2 (i j : Nat) {v : Value} {e n t t' : Nat} {xs : List UInt8} {inner : List Value} (hx : opv st.env x = some v) (hi : st.rw[i]? = some ⟨v, e, 1, n, inner⟩) (hj : st.fs[j]? = some (Ty.u8.row xs inner)) (ht : P.underlying t = some (.slice e)) (he : P.underlying e = some (.int .u8)) (ht' : P.underlying t' = some .string)
  {K : Act → World → Prop} {d : Nat} {Q : Exit → Act → World → Prop} (hd : Nat.blt d N = true) (k : At g N (st.put d (str xs)) K) : At g N st (fun a w => Oper.wp P ⟨some d, .convert t t' x, ty, pos, aft, gd⟩ a w K Q) := by
 intro a w h1 h2 h3 h4
 have hin := u8row_inner (h4.fcs _ (List.mem_of_getElem? hj))
 have hok := (h4.rws _ (List.mem_of_getElem? hi)).1.1
 simp only [Nat.mul_one] at hok
 exact lt_bstr i xs hx (by rw [hi, hin]) (by rw [← hok, hin, List.length_map]) ht he ht' hd k a w h1 h2 h3 h4
end

end Go.WK
