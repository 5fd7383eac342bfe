/- WK, part c: memory: new variables, fields, loads, stores, elements, and what a state keeps. No program in sight. -/
import Derived.Test.YteljaomifdnkkaaGreatDoorCompareKB
import Derived.Laws.Cells
import Derived.Laws.Rows
import Derived.Laws.Tables
import Derived.Laws.CopyRow
set_option linter.unusedSimpArgs false
set_option linter.unusedVariables false
namespace Go.WK
open Go.RowKit

/-- A type's zero value, its cells, its bytes; is it an aggregate? -/
def tinf (P : Program) (t : TypeId) : Option (Value × Nat × Nat × Bool) :=
  match P.info? t, P.underlying t with
  | some i, some d => match i.zero with
    | some z => some (z, i.size, i.bytes, match d with | .struct _ | .array _ _ => true | _ => false)
    | none => none
  | _, _ => none

/-- Where field i of a struct begins (a field that has cells). -/
def fldOff (P : Program) (s : TypeId) (i : Nat) : Option Nat :=
  match P.underlying s with
  | some (.struct fs) => (fs[i]?).bind fun f => match P.info? f.type with
    | some j => if j.size = 0 then none else some f.offset
    | none => none
  | _ => none

def ldv (agg : Bool) (vs : List Value) : Value := if agg then .agg vs.toArray else vs.headD undef

section
variable {P : Program} {t : TypeId} {z : Value} {sz by_ : Nat} {agg : Bool}
theorem tinf_info (h : tinf P t = some (z, sz, by_, agg)) : ∃ i, P.info? t = some i ∧ i.zero = some z ∧ i.size = sz ∧ i.bytes = by_ := by
 unfold tinf at h
 split at h
 ·split at h
  ·simp only [Option.some.injEq, Prod.mk.injEq] at h
   exact ⟨_, by assumption, by rw [← h.1]; assumption, h.2.1, h.2.2.1⟩
  ·cases h
 ·cases h
theorem run_sizeOf (h : tinf P t = some (z, sz, by_, agg)) (w : World) : (sizeOf t).run P w = .ok sz w := by
 obtain ⟨i, hi, _, hs, _⟩ := tinf_info h
 simp [sizeOf, typeInfo, hi, hs]
theorem run_zero (h : tinf P t = some (z, sz, by_, agg)) (w : World) : (zeroValue t).run P w = .ok z w := by
 obtain ⟨i, hi, hz, _, _⟩ := tinf_info h
 simp [zeroValue, typeInfo, hi, hz]
theorem run_isAgg (h : tinf P t = some (z, sz, by_, agg)) (w : World) : (isAgg t).run P w = .ok agg w := by
 unfold tinf at h
 split at h
 ·rename_i i d hi hd
  split at h
  ·simp only [Option.some.injEq, Prod.mk.injEq] at h
   obtain ⟨-, -, -, rfl⟩ := h
   cases d <;> simp [isAgg, run_underlying hd]
  ·cases h
 ·cases h
theorem run_loadAt (h : tinf P t = some (z, sz, by_, agg)) {p : Addr} {vs : List Value} {w : World} (hl : vs.length = sz) (hpos : 0 < sz) (hc : ∀ j u, vs[j]? = some u → w.cell? (p.add j) = some u) :
  (Instr.loadAt t (.pointer (some p))).run P w = .ok (ldv agg vs) w := by
 simp only [Instr.loadAt, Instr.sureAddr, loadVar, Sem.run_bind, Sem.run_pure, Result.andThen_ok, run_isAgg h]
 cases agg
 ·cases vs with
  | nil => simp at hl; omega
  | cons u r =>
   have := hc 0 u rfl
   rw [add_zero'] at this
   simp [ldv, this]
 ·simp only [if_true, Sem.run_bind, run_sizeOf h, Result.andThen_ok]
  have := run_loadCells_list (P := P) (w := w) p vs hc
  rw [hl] at this
  simp [this, ldv]
end

/-! ### What a step leaves of a state -/
section
variable {g : Gh} {st st' : St} {w w' : World}
theorem Mdl.move (h : Mdl g st w) (S : Nat → Prop) (hext : Ext S w w') (hS : ∀ k, S k → st.mut k)
  (hbx : ∀ b ∈ st'.bx, b.ok w' ∧ g.mine b.b) (hrw : ∀ r ∈ st'.rw, r.ok w' ∧ ∀ k, r.blk = some k → g.mine k) (hsep : st'.ids.Pairwise fun a b => a = none ∨ a ≠ b)
  (hmut : ∀ k, k < w.heap.size → st'.mut k → st.mut k) (hfs : ∀ f ∈ st'.fs, f ∈ st.fs ∨ f.P (foot g st' w') w') : Mdl g st' w' := by
 have hmine : ∀ k, st.mut k → g.mine k := fun k hk => by
  rcases hk with ⟨b, hb, rfl⟩ | ⟨r, hr, hk⟩
  ·exact (h.bxs b hb).2
  ·exact (h.rws r hr).2 k hk
 refine ⟨h.m0, h.ext.trans hext (fun i hi => ?_), hbx, hrw, hsep, fun f hf => ?_⟩
 ·exact (hmine i (hS i hi)).1
 ·rcases hfs f hf with hin | hp
  ·exact f.mv (h.fcs f hin) fun k hk => ⟨⟨Nat.lt_of_lt_of_le hk.1 hext.size, hk.2.1, fun hm => hk.2.2 (hmut k hk.1 hm)⟩, hext.block k hk.1 (fun hs => hk.2.2 (hS k hs))⟩
  ·exact hp

theorem box_lt {b : Box} (h : b.ok w) : b.b < w.heap.size := (Array.getElem?_eq_some_iff.1 h).1
theorem row_lt {r : Row} (h : r.ok w) {k : Nat} (hk : r.blk = some k) : k < w.heap.size := by
 rcases h.2 with ⟨a, hv, _⟩ | ⟨g, cap, cur, hv, hg, _⟩
 ·simp [Row.blk, hv] at hk
 ·simp [Row.blk, hv] at hk
  subst hk
  exact (Array.getElem?_eq_some_iff.1 hg).1
theorem Mdl.lt (h : Mdl g st w) {k : Nat} (hk : st.mut k) : k < w.heap.size := by
 rcases hk with ⟨b, hb, rfl⟩ | ⟨r, hr, hk⟩
 ·exact box_lt (h.bxs b hb).1
 ·exact row_lt (h.rws r hr).1 hk
theorem box_keep {b : Box} (h : b.ok w) (he : w'.heap[b.b]? = w.heap[b.b]?) : b.ok w' := by unfold Box.ok at *; rw [he]; exact h
theorem row_keep {r : Row} (h : r.ok w) (he : ∀ k, r.blk = some k → w'.heap[k]? = w.heap[k]?) : r.ok w' := by
 refine ⟨h.1, ?_⟩
 rcases h.2 with hn | ⟨g, cap, cur, hv, hg, rest⟩
 ·exact .inl hn
 ·exact .inr ⟨g, cap, cur, hv, by rw [he g (by simp [Row.blk, hv])]; exact hg, rest⟩
theorem mem_ids {o : Option Nat} (h : o ∈ st.ids) (k : Nat) (hk : o = some k) : st.mut k := by
 subst hk
 simp only [St.ids, List.mem_append, List.mem_map, Option.some.injEq] at h
 rcases h with ⟨b, hb, he⟩ | ⟨r, hr, he⟩
 ·exact .inl ⟨b, hb, he⟩
 ·exact .inr ⟨r, hr, he⟩

/-- A world in which every block stands as it did. -/
theorem Mdl.same (h : Mdl g st w) (hext : Ext (fun _ => False) w w') : Mdl g st w' :=
 h.move (fun _ => False) hext (fun _ hk => hk.elim) (fun b hb => ⟨box_keep (h.bxs b hb).1 (hext.block _ (box_lt (h.bxs b hb).1) (fun hk => hk)), (h.bxs b hb).2⟩)
  (fun r hr => ⟨row_keep (h.rws r hr).1 (fun _ hk => hext.block _ (row_lt (h.rws r hr).1 hk) (fun hk => hk)), (h.rws r hr).2⟩) h.sep (fun _ _ hk => hk) (fun _ hf => .inl hf)
theorem Ext.alloc (S : Nat → Prop) (w : World) (o : Obj) : Ext S w (w.alloc o) := ⟨rfl, rfl, rfl, by simp, fun k hk _ => heap_alloc_old w o k hk⟩

theorem Mdl.newBox (h : Mdl g st w) (cs : List Value) (t : TypeId) : Mdl g { st with bx := ⟨w.heap.size, cs, t⟩ :: st.bx } (w.alloc (.cells cs.toArray t)) := by
 have hmine : g.mine w.heap.size := ⟨.inr h.ext.size, fun hm => by have := h.m0 _ hm; have := h.ext.size; omega⟩
 refine h.move (fun _ => False) (Ext.alloc _ _ _) (fun _ hk => hk.elim) (fun b hb => ?_) (fun r hr => ?_) ?_ (fun k hk hm => ?_) (fun _ hf => .inl hf)
 ·rcases List.mem_cons.1 hb with rfl | hb
  ·exact ⟨heap_alloc_new w _, hmine⟩
  ·exact ⟨box_keep (h.bxs b hb).1 (heap_alloc_old w _ _ (box_lt (h.bxs b hb).1)), (h.bxs b hb).2⟩
 ·exact ⟨row_keep (h.rws r hr).1 (fun k hk => heap_alloc_old w _ _ (row_lt (h.rws r hr).1 hk)), (h.rws r hr).2⟩
 ·refine List.pairwise_cons.2 ⟨fun o ho => .inr fun he => ?_, h.sep⟩
  have := h.lt (mem_ids ho w.heap.size he.symm)
  omega
 ·rcases hm with ⟨b, hb, rfl⟩ | hm
  ·rcases List.mem_cons.1 hb with rfl | hb
   ·simp at hk
   ·exact .inl ⟨b, hb, rfl⟩
  ·exact .inr hm

theorem Mdl.newRow (h : Mdl g st w) (r : Row) (cells : Array Value) (e : TypeId) (hok : r.ok (w.alloc (.cells cells e))) (hblk : ∀ k, r.blk = some k → k = w.heap.size) :
  Mdl g { st with rw := r :: st.rw } (w.alloc (.cells cells e)) := by
 have hmine : g.mine w.heap.size := ⟨.inr h.ext.size, fun hm => by have := h.m0 _ hm; have := h.ext.size; omega⟩
 refine h.move (fun _ => False) (Ext.alloc _ _ _) (fun _ hk => hk.elim) (fun b hb => ?_) (fun r' hr => ?_) ?_ (fun k hk hm => ?_) (fun _ hf => .inl hf)
 ·exact ⟨box_keep (h.bxs b hb).1 (heap_alloc_old w _ _ (box_lt (h.bxs b hb).1)), (h.bxs b hb).2⟩
 ·rcases List.mem_cons.1 hr with rfl | hr
  ·exact ⟨hok, fun k hk => by rw [hblk k hk]; exact hmine⟩
  ·exact ⟨row_keep (h.rws r' hr).1 (fun k hk => heap_alloc_old w _ _ (row_lt (h.rws r' hr).1 hk)), (h.rws r' hr).2⟩
 ·have hs := h.sep
  simp only [St.ids, List.map_cons] at hs ⊢
  rw [List.pairwise_append] at hs ⊢
  refine ⟨hs.1, List.pairwise_cons.2 ⟨fun o ho => ?_, hs.2.1⟩, fun a ha b hb => ?_⟩
  ·cases hb : r.blk with
   | none => exact .inl rfl
   | some k =>
    refine .inr fun he => ?_
    have h1 := hblk k hb
    have := h.lt (mem_ids (List.mem_append.2 (.inr ho)) k he.symm)
    omega
  ·rcases List.mem_cons.1 hb with rfl | hb
   ·refine .inr fun he => ?_
    obtain ⟨b', hb', rfl⟩ := List.mem_map.1 ha
    have h1 := hblk b'.b he.symm
    have := box_lt (h.bxs b' hb').1
    omega
   ·exact hs.2.2 a ha b hb
 ·rcases hm with hm | ⟨r', hr, hm⟩
  ·exact .inl hm
  ·rcases List.mem_cons.1 hr with rfl | hr
   ·have := hblk k hm; omega
   ·exact .inr ⟨r', hr, hm⟩
theorem Mdl.addF (h : Mdl g st w) (f : Fact) (hf : f.P (foot g st w) w) : Mdl g { st with fs := f :: st.fs } w :=
 ⟨h.m0, h.ext, h.bxs, h.rws, h.sep, fun f' hf' => by
  rcases List.mem_cons.1 hf' with rfl | hf'
  ·exact hf
  ·exact h.fcs f' hf'⟩

theorem splice_len (cs vs : List Value) (o : Nat) (h : o + vs.length ≤ cs.length) : (cs.take o ++ vs ++ cs.drop (o + vs.length)).length = cs.length := by
 simp only [List.length_append, List.length_take, List.length_drop]; omega

theorem pairwise_ne {l : List (Option Nat)} (h : l.Pairwise fun a b => a = none ∨ a ≠ b) {i j : Nat} {k : Nat} (hi : l[i]? = some (some k)) (hj : l[j]? = some (some k)) : i = j := by
 rcases Nat.lt_trichotomy i j with hlt | he | hlt
 ·have := List.pairwise_iff_getElem.1 h i j (List.getElem?_eq_some_iff.1 hi).1 (List.getElem?_eq_some_iff.1 hj).1 hlt
  rw [(List.getElem?_eq_some_iff.1 hi).2, (List.getElem?_eq_some_iff.1 hj).2] at this
  simp at this
 ·exact he
 ·have := List.pairwise_iff_getElem.1 h j i (List.getElem?_eq_some_iff.1 hj).1 (List.getElem?_eq_some_iff.1 hi).1 hlt
  rw [(List.getElem?_eq_some_iff.1 hi).2, (List.getElem?_eq_some_iff.1 hj).2] at this
  simp at this

/-- A box's cells are others. -/
theorem Mdl.setBox (h : Mdl g st w) (i : Nat) {b : Nat} {cs cs' : List Value} {t : TypeId} (hb : st.bx[i]? = some ⟨b, cs, t⟩) (hw : w' = w.setRow b cs'.toArray) :
  Mdl g { st with bx := st.bx.set i ⟨b, cs', t⟩ } w' := by
 subst hw
 have hmem := List.mem_of_getElem? hb
 have hilt := (List.getElem?_eq_some_iff.1 hb).1
 have hok := (h.bxs _ hmem).1
 have hext : Ext (fun k => k = b) w (w.setRow b cs'.toArray) := ⟨rfl, rfl, rfl, by simp [World.setRow], fun k _ hk => setRow_other w b k _ hk⟩
 have hids : ({ st with bx := st.bx.set i ⟨b, cs', t⟩ } : St).ids = st.ids := by
  unfold St.ids
  simp only [List.map_set]
  congr 1
  apply List.ext_getElem?
  intro j
  rw [List.getElem?_set]
  split
  ·subst_vars
   have := (List.getElem?_eq_some_iff.1 hb).2
   simp [hilt, this]
  ·rfl
 have hother : ∀ j, j ≠ i → ∀ b' ∈ st.bx[j]?, b'.b ≠ b := by
  intro j hj b' hb' he
  have h1 : st.ids[j]? = some (some b) := by
   unfold St.ids
   rw [List.getElem?_append_left (by simpa using (List.getElem?_eq_some_iff.1 hb').1), List.getElem?_map, hb', Option.map_some, he]
  have h2 : st.ids[i]? = some (some b) := by
   unfold St.ids
   rw [List.getElem?_append_left (by simpa using hilt), List.getElem?_map, hb, Option.map_some]
  exact hj (pairwise_ne h.sep h1 h2)
 have hrow : ∀ r ∈ st.rw, r.blk ≠ some b := by
  intro r hr he
  have h2 : st.ids[i]? = some (some b) := by
   unfold St.ids
   rw [List.getElem?_append_left (by simpa using hilt), List.getElem?_map, hb, Option.map_some]
  obtain ⟨j, hj⟩ := List.getElem?_of_mem hr
  have h1 : st.ids[st.bx.length + j]? = some (some b) := by
   unfold St.ids
   rw [List.getElem?_append_right (by simp)]
   simp [hj, he]
  have := pairwise_ne h.sep h1 h2
  omega
 refine h.move (fun k => k = b) hext (fun k hk => .inl ⟨_, hmem, hk.symm⟩) (fun b' hb' => ?_) (fun r hr => ?_) (by rw [hids]; exact h.sep) (fun k hk hm => ?_) (fun _ hf => .inl hf)
 ·obtain ⟨j, hj⟩ := List.getElem?_of_mem hb'
  rw [List.getElem?_set] at hj
  split at hj
  ·rename_i he
   subst he
   simp only [Option.some.injEq] at hj
   subst hj
   exact ⟨setRow_heap w b cs.toArray cs'.toArray t (0, 0) hok, (h.bxs _ hmem).2⟩
  ·rename_i he
   have hm' := List.mem_of_getElem? hj
   exact ⟨box_keep (h.bxs b' hm').1 (setRow_other w b _ _ (hother j (Ne.symm he) b' hj)), (h.bxs b' hm').2⟩
 ·exact ⟨row_keep (h.rws r hr).1 (fun k hk => setRow_other w b k _ (fun e => hrow r hr (by rw [hk, e]))), (h.rws r hr).2⟩
 ·rcases hm with ⟨b', hb', rfl⟩ | hm
  ·have : some b'.b ∈ st.ids := by rw [← hids]; unfold St.ids; exact List.mem_append.2 (.inl (List.mem_map.2 ⟨b', hb', rfl⟩))
   exact mem_ids this _ rfl
  ·exact .inr hm
end

/-! ### The steps -/
section
variable {P : Program} {Q : Exit → Act → World → Prop} {g : Gh} {N : Nat} {st : St} {K : Act → World → Prop} {d ty T : Nat} {x y : Operand} {pos : String} {aft : Array Edge} {dst : Option Nat} {gd : Option (Nat × Bool)}
variable {z : Value} {sz by_ : Nat} {agg : Bool}

/-- An operation that yields a value and may turn the world. -/
theorem hv_step {op : Op} {A : Type} (v : A → Value) (sn : A → St)
  (hrun : ∀ (a : Act) (w : World), (∀ i u, lk st.env i = some u → a.tmps[i]? = some u) → Mdl g st w → ∃ s w', (execOp a.eval ⟨some d, op, ty, pos, aft, gd⟩).run P w = .ok (.value (v s)) w' ∧ Mdl g (sn s) w' ∧ (sn s).env = st.env) (hd : Nat.blt d N = true)
  (k : ∀ s, At g N ((sn s).put d (v s)) K) : At g N st (fun a w => Oper.wp P ⟨some d, op, ty, pos, aft, gd⟩ a w K Q) := by
 intro a w h1 h2 h3 h4
 obtain ⟨s, w', hr, hm, he⟩ := hrun a w h3 h4
 unfold Oper.wp
 rw [hr]
 exact k s _ w' (by simpa [Act.put] using h1) (by simpa [Act.put] using h2) (by simp only [St.put, he]; exact lk_put h2 (by simpa using hd) h3) hm.put

def St.addB (st : St) (b : Box) : St := { st with bx := b :: st.bx }
def St.addR (st : St) (r : Row) : St := { st with rw := r :: st.rw }
def St.addF (st : St) (f : Fact) : St := { st with fs := f :: st.fs }
def St.setB (st : St) (i : Nat) (b : Box) : St := { st with bx := st.bx.set i b }
def St.setR (st : St) (i : Nat) (r : Row) : St := { st with rw := st.rw.set i r }

theorem hv_alloc {t : TypeId} {cs : List Value} (ht : tinf P t = some (z, sz, by_, agg)) (hz : z.cells.toList = cs) (hd : Nat.blt d N = true)
  (k : ∀ b, At g N ((st.addB ⟨b, cs, t⟩).put d (.pointer (some ((⟨b, 0, none⟩ : Addr).add 0)))) K) : At g N st (fun a w => Oper.wp P ⟨some d, .alloc t, ty, pos, aft, gd⟩ a w K Q) :=
 hv_step (fun b : Nat => .pointer (some ((⟨b, 0, none⟩ : Addr).add 0))) (fun b => st.addB ⟨b, cs, t⟩) (fun a w _ h4 => ⟨w.heap.size, w.alloc (.cells cs.toArray t), by
  subst hz
  simp [execOp, Instr.alloc, run_zero ht, newVar, newRow, add_zero'], h4.newBox cs t, rfl⟩) hd k
theorem hv_box {t : TypeId} {v : Value} {cs : List Value} (hx : opv st.env x = some v) (hz : v.cells.toList = cs) (hd : Nat.blt d N = true)
  (k : ∀ b, At g N ((st.addB ⟨b, cs, t⟩).put d (.pointer (some ((⟨b, 0, none⟩ : Addr).add 0)))) K) : At g N st (fun a w => Oper.wp P ⟨some d, .box t x, ty, pos, aft, gd⟩ a w K Q) :=
 hv_step (fun b : Nat => .pointer (some ((⟨b, 0, none⟩ : Addr).add 0))) (fun b => st.addB ⟨b, cs, t⟩) (fun a w h3 h4 => ⟨w.heap.size, w.alloc (.cells cs.toArray t), by
  subst hz
  simp [execOp, Instr.box, eval_of h3 hx, newVar, newRow, add_zero'], h4.newBox cs t, rfl⟩) hd k
theorem lt_fieldAddr {s : TypeId} {f o o' : Nat} (off : Nat) {p : Addr} (hx : opv st.env x = some (.pointer (some (p.add o)))) (hf : fldOff P s f = some off) (ho : o + off = o') :
  Lt P st ⟨dst, .fieldAddr s x f, ty, pos, aft, gd⟩ (.pointer (some (p.add o'))) :=
 (fun a w h3 _ => by
  subst ho
  unfold fldOff at hf
  split at hf
  ·rename_i fs hs
   cases hfi : fs[f]? with
   | none => simp [hfi] at hf
   | some fd =>
    simp only [hfi, Option.bind_some] at hf
    split at hf
    ·rename_i j hj
     split at hf
     ·cases hf
     ·rename_i hne
      injection hf with hf
      subst hf
      simp [execOp, eval_of h3 hx, Instr.fieldAt, run_underlying hs, hfi, Instr.sureAddr, fieldPlace, sizeOf, typeInfo, hj, hne, add_add']
    ·cases hf
  ·cases hf)
theorem box_cells {b o : Nat} {cs : List Value} {t : TypeId} {w : World} {vs : List Value} (h : Box.ok w ⟨b, cs, t⟩) (hs : (cs.drop o).take sz = vs) :
  ∀ j u, vs[j]? = some u → w.cell? (((⟨b, 0, none⟩ : Addr).add o).add j) = some u := by
 intro j u hu
 rw [add_add']
 subst hs
 rw [List.getElem?_take] at hu
 split at hu
 ·rw [List.getElem?_drop] at hu
  unfold Box.ok at h
  simp only at h
  rw [add_b]
  simp [World.cell?, h, hu]
 ·cases hu
theorem lt_load_box (i : Nat) {b o : Nat} {cs vs : List Value} {t : TypeId} {v : Value} (hx : opv st.env x = some (.pointer (some ((⟨b, 0, none⟩ : Addr).add o)))) (ht : tinf P T = some (z, sz, by_, agg)) (hb : st.bx[i]? = some ⟨b, cs, t⟩)
  (hs : (cs.drop o).take sz = vs) (hl : vs.length = sz) (hp : Nat.blt 0 sz = true) (hv : ldv agg vs = v) : Lt P st ⟨dst, .load T x, ty, pos, aft, gd⟩ v :=
 (fun a w h3 h4 => by
  subst hv
  have hm := h4.bxs _ (List.mem_of_getElem? hb)
  simp only [execOp, eval_of h3 hx, Sem.run_bind, run_loadAt ht hl (by simpa using hp) (box_cells hm hs), Result.andThen_ok, Sem.run_pure])
theorem lt_load_peek (i : Nat) {o : Nat} {p : Addr} {cs vs : List Value} {v : Value} (hx : opv st.env x = some (.pointer (some (p.add o)))) (ht : tinf P T = some (z, sz, by_, agg)) (hb : st.fs[i]? = some (peek p cs))
  (hs : (cs.drop o).take sz = vs) (hl : vs.length = sz) (hp : Nat.blt 0 sz = true) (hv : ldv agg vs = v) : Lt P st ⟨dst, .load T x, ty, pos, aft, gd⟩ v :=
 (fun a w h3 h4 => by
  subst hv
  obtain ⟨F, hm⟩ := h4.fcs _ (List.mem_of_getElem? hb)
  have hc : ∀ j u, vs[j]? = some u → w.cell? ((p.add o).add j) = some u := by
   intro j u hu
   rw [add_add']
   subst hs
   rw [List.getElem?_take] at hu
   split at hu
   ·rw [List.getElem?_drop] at hu
    exact (hm _ _ hu).2
   ·cases hu
  simp only [execOp, eval_of h3 hx, Sem.run_bind, run_loadAt ht hl (by simpa using hp) hc, Result.andThen_ok, Sem.run_pure])

theorem hv_store_box (i : Nat) {b o : Nat} {cs cs' : List Value} {t : TypeId} {v : Value} (hx : opv st.env x = some (.pointer (some ((⟨b, 0, none⟩ : Addr).add o)))) (hy : opv st.env y = some v) (ht : tinf P T = some (z, sz, by_, agg)) (hb : st.bx[i]? = some ⟨b, cs, t⟩)
  (hs : cs.take o ++ v.cells.toList ++ cs.drop (o + v.cells.toList.length) = cs') (hl : v.cells.toList.length = sz) (hfit : Nat.ble (o + sz) cs.length = true) (h1 : v.cells.toList.all Value.oneCell' = true)
  (k : At g N (st.setB i ⟨b, cs', t⟩) K) : At g N st (fun a w => Oper.wp P ⟨none, .store T x y, ty, pos, aft, gd⟩ a w K Q) := by
 intro a w e1 e2 e3 e4
 have hm := (e4.bxs _ (List.mem_of_getElem? hb)).1
 have hadd := add_b b o
 have hfit' : o + v.cells.toList.length ≤ cs.length := by rw [hl]; simpa using hfit
 have hst := run_storeCells_at P b o t v.cells.toList 0 cs.toArray w hm (by simpa using hfit') (fun u hu => List.all_eq_true.1 h1 u hu)
 simp only [Nat.add_zero] at hst
 rw [hs] at hst
 have hrun : (execOp a.eval ⟨none, .store T x y, ty, pos, aft, gd⟩).run P w = .ok .skip (w.setRow b cs'.toArray) := by
  have hsz : v.cells.size = sz := by rw [← hl]; simp
  simp [execOp, eval_of e3 hx, eval_of e3 hy, Instr.storeAt, Instr.sureAddr, storeVar, run_sizeOf ht, hsz, hadd, hst]
 unfold Oper.wp
 rw [hrun]
 exact k a _ e1 e2 e3 (e4.setBox i hb rfl)

theorem hv_store1 (i : Nat) {b o : Nat} {cs cs' : List Value} {t : TypeId} {v : Value} (hx : opv st.env x = some (.pointer (some ((⟨b, 0, none⟩ : Addr).add o)))) (hy : opv st.env y = some v) (ht : tinf P T = some (z, sz, by_, agg)) (hb : st.bx[i]? = some ⟨b, cs, t⟩)
  (hs : cs.take o ++ [v] ++ cs.drop (o + 1) = cs') (hl : 1 = sz) (hfit : Nat.ble (o + sz) cs.length = true) (h1 : v.oneCell' = true)
  (k : At g N (st.setB i ⟨b, cs', t⟩) K) : At g N st (fun a w => Oper.wp P ⟨none, .store T x y, ty, pos, aft, gd⟩ a w K Q) := by
 have hc : v.cells.toList = [v] := by cases v <;> first | rfl | cases h1
 exact hv_store_box i hx hy ht hb (by rw [hc]; exact hs) (by rw [hc]; exact hl) hfit (by rw [hc]; simp [h1]) k
/-- A mark-up of the state: something more is known of it, and it stays as it is. -/
theorem at_know {p : Act → World → Prop} (f : Fact) (h : ∀ w, Mdl g st w → f.P (foot g st w) w) (k : At g N (st.addF f) p) : At g N st p :=
 fun a w h1 h2 h3 h4 => k a w h1 h2 h3 (h4.addF f (h w h4))
theorem at_inv {α : Type} {Ty' : Ty α} {xd : α} {cs : List Value} {p : Act → World → Prop} (i : Nat) (hf : st.fs[i]? = some (Ty'.fact xd cs)) (k : Ty'.inv xd → At g N st p) : At g N st p :=
 fun a w h1 h2 h3 h4 => k (Ty'.pure (h4.fcs _ (List.mem_of_getElem? hf))) a w h1 h2 h3 h4
/-- A fact taken apart. -/
theorem at_open {A : Type} {f : Fact} {p : Act → World → Prop} (i : Nat) (hf : st.fs[i]? = some f) (E : A → Prop) (fcs : A → List Fact) (h : ∀ F w, f.P F w → ∃ s, E s ∧ ∀ f' ∈ fcs s, f'.P F w)
  (k : ∀ s, E s → At g N { st with fs := fcs s ++ st.fs } p) : At g N st p := fun a w h1 h2 h3 h4 => by
 obtain ⟨s, hE, hs⟩ := h _ w (h4.fcs _ (List.mem_of_getElem? hf))
 exact k s hE a w h1 h2 h3 ⟨h4.m0, h4.ext, h4.bxs, h4.rws, h4.sep, fun f' hf' => (List.mem_append.1 hf').elim (hs f') (h4.fcs f')⟩

def at? {α : Type} (xs : List α) (i : Int) : Option α := if 0 ≤ i then xs[i.toNat]? else none
theorem at?_nat {α : Type} (xs : List α) (i : Nat) : at? xs (i : Int) = xs[i]? := by simp [at?]
theorem at?_mem {α : Type} {xs : List α} {i : Int} {x : α} (h : at? xs i = some x) : x ∈ xs := by
 unfold at? at h
 split at h
 ·exact List.mem_of_getElem? h
 ·cases h
theorem at?_lt {α : Type} {xs : List α} {i : Int} {x : α} (h : at? xs i = some x) : 0 ≤ i ∧ i < xs.length := by
 unfold at? at h
 split at h
 ·have := (List.getElem?_eq_some_iff.1 h).1; omega
 ·cases h

/-- p is the address of element ix of the slice v (n elements of sz cells). -/
def PtrAt (v : Value) (sz : Nat) (ix : Int) (n : Nat) (p : Addr) : Prop := ∃ ad c, v = .slice (some ad) n c ∧ 0 ≤ ix ∧ ix < n ∧ p = ad.add (ix.toNat * sz)

/-- The address of an element of a slice that is read; what lies there. -/
theorem at_elem (i : Nat) {α : Type} {E : Ty α} {xs : List α} {xd : α} {v : Value} {ix : Int} {q : Act → World → Prop}
  (hf : st.fs[i]? = some (E.slice.fact xs [v])) (hat : at? xs ix = some xd)
  (k : ∀ p ec, PtrAt v E.sz ix xs.length p → At g N ((st.addF (peek p ec)).addF (E.fact xd ec)) q) : At g N st q := by
 have h0 : 0 ≤ ix := (at?_lt hat).1
 have hget : xs[ix.toNat]? = some xd := by unfold at? at hat; rwa [if_pos h0] at hat
 intro a w h1 h2 h3 h4
 obtain ⟨A, c, hcs, hlen, _, _, hel⟩ := h4.fcs _ (List.mem_of_getElem? hf)
 obtain ⟨ad, ec, rfl, hR, hc⟩ := hel _ _ hget
 injection hcs with hv
 have hlt := (List.getElem?_eq_some_iff.1 hget).1
 refine k (ad.add (ix.toNat * E.sz)) ec ⟨ad, c, hv, h0, by omega, rfl⟩ a w h1 h2 h3 ((h4.addF _ ?_).addF _ hR)
 intro j u hu
 rw [add_block, add_add']
 exact hc j u hu
theorem lt_idx {v : Value} {t e n : Nat} {kd : IntKind} {ix : Int} {p : Addr} (hx : opv st.env x = some v) (hy : opv st.env y = some (.int kd ix)) (hp : PtrAt v sz ix n p) (ht : P.underlying t = some (.slice e)) (he : tinf P e = some (z, sz, by_, agg)) :
  Lt P st ⟨dst, .indexAddr t x y, ty, pos, aft, gd⟩ (.pointer (some (p.add 0))) := fun a w h3 _ => by
 obtain ⟨ad, c, rfl, h0, h1, rfl⟩ := hp
 simp [execOp, eval_of h3 hx, eval_of h3 hy, Instr.indexAt, run_underlying ht, asIntOf, h0, h1, run_sizeOf he, add_zero']
/-- An element of an array that lies at p + o. -/
theorem lt_aidx {t e n o o' : Nat} {kd : IntKind} {ix : Int} (i : Nat) {p : Addr} (hx : opv st.env x = some (.pointer (some (p.add o)))) (hy : opv st.env y = some (.int kd ix)) (hi : ix = (i : Int)) (hlt : Nat.blt i n = true) (ht : P.underlying t = some (.array n e)) (he : tinf P e = some (z, sz, by_, agg)) (ho : o + i * sz = o') :
  Lt P st ⟨dst, .indexAddr t x y, ty, pos, aft, gd⟩ (.pointer (some (p.add o'))) := fun a w h3 _ => by
 subst ho hi
 have hlt' : i < n := by simpa using hlt
 have h1 : ¬ (n ≤ i) := by omega
 simp [execOp, eval_of h3 hx, eval_of h3 hy, Instr.indexAt, run_underlying ht, asIntOf, h1, run_sizeOf he, Instr.sureAddr, add_add']
/-- The length of a slice that is read. -/
theorem lt_flen (i : Nat) {α : Type} {E : Ty α} {xs : List α} {v : Value} {t e : TypeId} (hx : opv st.env x = some v) (hf : st.fs[i]? = some (E.slice.fact xs [v])) (ht : P.underlying t = some (.slice e)) :
  Lt P st ⟨dst, .call ⟨.builtin .len, #[x], #[t]⟩, ty, pos, aft, gd⟩ (.int .i64 xs.length) :=
 (fun a w h3 h4 => by
  obtain ⟨F, A, c, hcs, _⟩ := h4.fcs _ (List.mem_of_getElem? hf)
  injection hcs with hv
  simp [execOp, resolve, invoke, builtin, Builtin.len_, eval_of h3 hx, hv, run_underlying ht, goInt])
end
end Go.WK
