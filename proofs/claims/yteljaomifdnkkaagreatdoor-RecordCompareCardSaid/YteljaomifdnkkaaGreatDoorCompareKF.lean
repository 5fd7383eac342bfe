/- WK, part f: rows of the call's own: literals, append, release; cuts; bytes to strings. No program in sight. -/
import Derived.Test.YteljaomifdnkkaaGreatDoorCompareKE
set_option linter.unusedSimpArgs false
set_option linter.unusedVariables false
namespace Go.WK
open Go.RowKit

theorem row_nil {w : World} (a : Option Addr) (e : TypeId) (sz : Nat) : Row.ok w ⟨.slice a 0 0, e, sz, 0, []⟩ := ⟨by simp, .inl ⟨a, rfl, rfl⟩⟩
theorem row_new {w : World} {g : Nat} {cur : Array Value} {e sz n c : Nat} {inner : List Value} (hg : w.heap[g]? = some (.cells cur e (0, 0))) (hc : n ≤ c) (hm : c ≤ maxLen) (hs : cur.size = c * sz) (ht : cur.toList.take (n * sz) = inner) :
  Row.ok w ⟨.slice (some ⟨g, 0, none⟩) n c, e, sz, n, inner⟩ := by
 have hl : inner.length = n * sz := by
  rw [← ht, List.length_take, Array.length_toList, hs]
  exact Nat.min_eq_left (Nat.mul_le_mul_right _ hc)
 refine ⟨hl, ?_⟩
 cases c with
 | zero =>
  have hn : n = 0 := by omega
  subst hn
  exact .inl ⟨_, rfl, rfl⟩
 | succ c => exact .inr ⟨g, c, cur, rfl, hg, hc, hm, hs, ht⟩
theorem row_blk_new {g n c e sz m : Nat} {inner : List Value} : ∀ k, Row.blk ⟨.slice (some ⟨g, 0, none⟩) n c, e, sz, m, inner⟩ = some k → k = g := by
 intro k hk
 unfold Row.blk at hk
 cases c <;> simp at hk
 exact hk.symm

/-- What a row's value is, and where its cells lie. -/
theorem row_form {w : World} {r : Row} (h : r.ok w) : ∃ a c, r.v = .slice a r.n c ∧ r.n ≤ c ∧ (∀ ad, a = some ad → ∀ j u, r.inner[j]? = some u → w.cell? (ad.add j) = some u) ∧ (a = none → r.n = 0) := by
 rcases h.2 with ⟨a, hv, hn⟩ | ⟨g, cap, cur, hv, hg, hc, _, _, ht⟩
 ·refine ⟨a, 0, by rw [hn]; exact hv, by omega, fun ad _ j u hu => ?_, fun _ => hn⟩
  have hl := h.1
  rw [hn, Nat.zero_mul] at hl
  rw [List.eq_nil_of_length_eq_zero hl] at hu
  simp at hu
 ·refine ⟨_, _, hv, hc, fun ad had j u hu => ?_, fun hn => by cases hn⟩
  injection had with had
  subst had
  have ha : (⟨g, 0, none⟩ : Addr).add j = ⟨g, j, none⟩ := by unfold Addr.add; split <;> simp_all
  rw [← ht, List.getElem?_take] at hu
  split at hu
  ·rw [ha]
   simp only [World.cell?, hg]
   simpa using hu
  ·cases hu

section
variable {P : Program} {w : World}
theorem run_first {sz n : Nat} {a : Option Addr} {m c : Nat} {cs : List Value} (hl : cs.length = n * sz) (h : ∀ ad, a = some ad → ∀ j u, cs[j]? = some u → w.cell? (ad.add j) = some u) (hn : a = none → n = 0) :
  (Builtin.firstCells sz n (.slice a m c)).run P w = .ok cs.toArray w := by
 cases a with
 | none =>
  have := hn rfl
  subst this
  have : cs = [] := List.eq_nil_of_length_eq_zero (by simpa using hl)
  subst this
  simp [Builtin.firstCells]
 | some ad =>
  have := run_loadCells_list (P := P) (w := w) ad cs (h ad rfl)
  rw [hl] at this
  simp [Builtin.firstCells, this]

/-- An append that grows. -/
theorem run_app_grow {t ty e : TypeId} {z : Value} {sz by_ : Nat} {agg : Bool} (ht : P.underlying t = some (.slice e)) (he : tinf P e = some (z, sz, by_, agg))
  {A B : Option Addr} {n c m c' : Nat} {olds news : List Value} (ho : ∀ w' : World, w'.heap = w.heap → (Builtin.firstCells sz n (.slice A n c)).run P w' = .ok olds.toArray w') (hn : ∀ w' : World, w'.heap = w.heap → (Builtin.firstCells sz m (.slice B m c')).run P w' = .ok news.toArray w')
  (hg : c < n + m) (h63 : n + m ≤ 9223372036854775807) (hb : (n + m) * by_ ≤ 140737488355328) :
  (Builtin.append_ #[t, t] ty #[.slice A n c, .slice B m c']).run P w =
   .ok (.slice (some ⟨w.heap.size, 0, none⟩) (n + m) (grownCap w (n + m) c e)) (w.drew.alloc (.cells (olds.toArray ++ news.toArray ++ Builtin.zeroCells z.cells (grownCap w (n + m) c e - (n + m))) e)) := by
 obtain ⟨i, hi, hz, hs, hby⟩ := tinf_info he
 have h1 : ¬ (n + m ≤ c) := by omega
 have h63' : ¬ (9223372036854775807 < ((n : Int) + (m : Int))) := by omega
 have hfit := growslice_fits (old := c) hg hb
 rw [← hby] at hfit
 have h48' : ¬ (281474976710656 < Builtin.nextslicecap (n + m) c * i.bytes) := by omega
 have ho' := ho w.drew rfl
 have hn' := hn w.drew rfl
 subst hs
 simp [Builtin.append_, run_underlying ht, sizeOf, typeInfo, zeroValue, hi, hz, Builtin.lenOf, h1, h63', h48', Question.forced, ho', hn', newRow, grownCap]
 rw [← List.append_toArray, Array.append_assoc]

/-- An append that finds room. -/
theorem run_app_room {t ty e : TypeId} {z : Value} {sz by_ : Nat} {agg : Bool} (ht : P.underlying t = some (.slice e)) (he : tinf P e = some (z, sz, by_, agg))
  {A B : Option Addr} {n c m c' : Nat} {news : List Value} (hn : (Builtin.firstCells sz m (.slice B m c')).run P w = .ok news.toArray w)
  (hg : n + m ≤ c) {w' : World} (hst : ∀ ad, A = some ad → (storeCells (ad.add (n * sz)) news).run P w = .ok () w') (hno : A = none → w' = w) :
  (Builtin.append_ #[t, t] ty #[.slice A n c, .slice B m c']).run P w = .ok (.slice A (n + m) c) w' := by
 obtain ⟨i, hi, hz, hs, hby⟩ := tinf_info he
 subst hs
 cases A with
 | none =>
  rw [hno rfl]
  simp [Builtin.append_, run_underlying ht, sizeOf, typeInfo, hi, Builtin.lenOf, hg, hn]
 | some ad =>
  simp [Builtin.append_, run_underlying ht, sizeOf, typeInfo, hi, Builtin.lenOf, hg, hn, hst ad rfl]
end

section
variable {g : Gh} {st : St} {w w' : World}
theorem pairwise_set {l : List (Option Nat)} (h : l.Pairwise fun a b => a = none ∨ a ≠ b) (i : Nat) (o : Option Nat) (hne : ∀ j, j ≠ i → ∀ k, o = some k → l[j]? ≠ some (some k)) :
  (l.set i o).Pairwise fun a b => a = none ∨ a ≠ b := by
 rw [List.pairwise_iff_getElem] at h ⊢
 intro a b ha hb hab
 rw [List.length_set] at ha hb
 have hg : ∀ j (hj : j < l.length), l[j]? = some l[j] := fun j hj => List.getElem?_eq_getElem hj
 rw [List.getElem_set, List.getElem_set]
 by_cases h1 : i = a
 ·subst h1
  rw [if_pos rfl, if_neg (by omega)]
  cases o with
  | none => exact .inl rfl
  | some k => exact .inr fun he => hne b (by omega) k rfl (by rw [hg b (by assumption), he])
 ·rw [if_neg h1]
  by_cases h2 : i = b
  ·subst h2
   rw [if_pos rfl]
   cases hla : l[a] with
   | none => exact .inl rfl
   | some k => exact .inr fun he => hne a (by omega) k he.symm (by rw [hg a (by assumption), hla])
  ·rw [if_neg h2]
   exact h a b ha hb hab

/-- A row is another: its block written, or a new one. -/
theorem Mdl.setRow (h : Mdl g st w) (i : Nat) {r r' : Row} (hi : st.rw[i]? = some r) (hext : Ext (fun k => r.blk = some k) w w') (hok : r'.ok w') (hblk : ∀ k, r'.blk = some k → r.blk = some k ∨ w.heap.size ≤ k) :
  Mdl g (st.setR i r') w' := by
 have hmem := List.mem_of_getElem? hi
 have hilt := (List.getElem?_eq_some_iff.1 hi).1
 have hidi : st.ids[st.bx.length + i]? = some r.blk := by
  unfold St.ids
  rw [List.getElem?_append_right (by simp)]
  simp [hi]
 have hids : (st.setR i r').ids = st.ids.set (st.bx.length + i) r'.blk := by
  unfold St.ids St.setR
  simp only [List.map_set]
  rw [List.set_append_right _ _ (by simp)]
  simp
 have hbox : ∀ b ∈ st.bx, r.blk ≠ some b.b := by
  intro b hb he
  obtain ⟨j, hj⟩ := List.getElem?_of_mem hb
  have h1 : st.ids[j]? = some (some b.b) := by
   unfold St.ids
   rw [List.getElem?_append_left (by simpa using (List.getElem?_eq_some_iff.1 hj).1), List.getElem?_map, hj, Option.map_some]
  have := pairwise_ne h.sep h1 (by rw [hidi, he])
  have := (List.getElem?_eq_some_iff.1 hj).1
  omega
 have hrow : ∀ j, j ≠ i → ∀ r2, st.rw[j]? = some r2 → ∀ k, r2.blk = some k → r.blk ≠ some k := by
  intro j hj r2 hr2 k hk he
  have h1 : st.ids[st.bx.length + j]? = some (some k) := by
   unfold St.ids
   rw [List.getElem?_append_right (by simp)]
   simp [hr2, hk]
  have := pairwise_ne h.sep h1 (by rw [hidi, he])
  omega
 have hmine : ∀ k, r'.blk = some k → g.mine k := by
  intro k hk
  rcases hblk k hk with h1 | h1
  ·exact (h.rws r hmem).2 k h1
  ·exact ⟨.inr (Nat.le_trans h.ext.size h1), fun hm => by have := h.m0 _ hm; have := h.ext.size; omega⟩
 refine h.move _ hext (fun k hk => .inr ⟨r, hmem, hk⟩) (fun b hb => ?_) (fun r2 hr2 => ?_) ?_ (fun k hk hm => ?_) (fun _ hf => .inl hf)
 ·exact ⟨box_keep (h.bxs b hb).1 (hext.block _ (box_lt (h.bxs b hb).1) (hbox b hb)), (h.bxs b hb).2⟩
 ·obtain ⟨j, hj⟩ := List.getElem?_of_mem hr2
  simp only [St.setR] at hj
  rw [List.getElem?_set] at hj
  split at hj
  ·rename_i he
   subst he
   simp only [Option.some.injEq] at hj
   subst hj
   exact ⟨hok, hmine⟩
  ·rename_i he
   have hm' := List.mem_of_getElem? hj
   exact ⟨row_keep (h.rws r2 hm').1 (fun k hk => hext.block _ (row_lt (h.rws r2 hm').1 hk) (hrow j (Ne.symm he) r2 hj k hk)), (h.rws r2 hm').2⟩
 ·rw [hids]
  refine pairwise_set h.sep _ _ fun j hj k hk hl => ?_
  rcases hblk k hk with h1 | h1
  ·exact hj (pairwise_ne h.sep hl (by rw [hidi, h1]))
  ·have := h.lt (mem_ids (List.mem_of_getElem? hl) k rfl)
   omega
 ·rcases hm with hm | ⟨r2, hr2, hm⟩
  ·exact .inl hm
  ·obtain ⟨j, hj⟩ := List.getElem?_of_mem hr2
   simp only [St.setR] at hj
   rw [List.getElem?_set] at hj
   split at hj
   ·simp only [Option.some.injEq] at hj
    subst hj
    rcases hblk k hm with h1 | h1
    ·exact .inr ⟨r, hmem, h1⟩
    ·omega
   ·exact .inr ⟨r2, List.mem_of_getElem? hj, hm⟩
end

section
variable {P : Program} {Q : Exit → Act → World → Prop} {g : Gh} {N : Nat} {st : St} {K : Act → World → Prop} {d ty T : Nat} {x y : Operand} {pos : String} {aft : Array Edge} {dst : Option Nat} {gd : Option (Nat × Bool)}
variable {z : Value} {sz by_ : Nat} {agg : Bool}

/-- A slice literal: a row of the call's own. -/
theorem hv_bslice {n e : Nat} {parts : List (Nat × Operand)} {vs : List (Nat × Value)} {cs : List Value} (hx : opps st.env parts = some vs) (ht : P.underlying T = some (.slice e)) (he : tinf P e = some (z, sz, by_, agg))
  (hsm : Nat.ble (n * sz) 1000 = true) (hn : Nat.ble n 1000 = true) (hf : fillL (fun i => some (i * sz, sz)) ((List.range (n * sz)).map fun i => z.cells[i % z.cells.size]!) vs = some cs) (hl : cs.length = n * sz) (hd : Nat.blt d N = true)
  (k : ∀ v, At g N ((st.addR ⟨v, e, sz, n, cs⟩).put d v) K) : At g N st (fun a w => Oper.wp P ⟨some d, .buildSlice T n parts.toArray, ty, pos, aft, gd⟩ a w K Q) := by
 refine hv_step (fun v : Value => v) (fun v => st.addR ⟨v, e, sz, n, cs⟩) (fun a w h3 h4 => ?_) hd k
 have hm : Array.map (fun (x : Nat × Operand) => match x with | (i, x) => (i, a.eval x)) parts.toArray = vs.toArray := by
  rw [← evps_of h3 hx, List.map_toArray]
 have hsm' : n * sz ≤ 1000 := by simpa using hsm
 have hn' : n ≤ 1000 := by simpa using hn
 have hnot : ¬ (16777216 < n * sz) := by omega
 refine ⟨.slice (some ⟨w.heap.size, 0, none⟩) n n, w.alloc (.cells cs.toArray e), ?_, ?_, rfl⟩
 ·simp only [execOp, hm]
  have h5 : ∀ zr : Array Value, (Array.range (n * sz)).map (fun i => zr[i % zr.size]!) = ((List.range (n * sz)).map fun i => zr[i % zr.size]!).toArray := by
   intro zr
   rw [← List.map_toArray]
   congr 1
   apply Array.ext'
   simp [Array.toList_range]
  have hff := fill_of hf
  rw [← h5] at hff
  by_cases h0 : n * sz = 0
  ·have hz0 : ∀ f : Nat → Value, (Array.range 0).map f = #[] := fun f => by apply Array.eq_empty_of_size_eq_zero; simp
   rw [h0, hz0] at hff
   simp only [Instr.buildSlice, Sem.run_bind, run_underlying ht, Result.andThen_ok, run_sizeOf he, h0]
   simp [hz0, hff, newRow]
  ·simp [Instr.buildSlice, run_underlying ht, run_sizeOf he, hnot, h0, run_zero he, hff, newRow]
 ·refine h4.newRow _ _ _ (row_new (heap_alloc_new w _) (Nat.le_refl n) ?_ (by simpa using hl) (by simp [← hl])) row_blk_new
  unfold maxLen
  omega

/-- What an append does to a row. -/
theorem app_row {w : World} (h4 : Mdl g st w) (i : Nat) {v : Value} {e n m c' t ty : Nat} {inner news : List Value} {B : Option Addr} (hi : st.rw[i]? = some ⟨v, e, sz, n, inner⟩)
  (ht : P.underlying t = some (.slice e)) (he : tinf P e = some (z, sz, by_, agg)) (hz : z.cells.size = sz) (hp : 0 < sz)
  (hnl : news.length = m * sz) (hn : ∀ w' : World, w'.heap = w.heap → (Builtin.firstCells sz m (.slice B m c')).run P w' = .ok news.toArray w') (h1 : ∀ u ∈ news, u.oneCell' = true)
  (h63 : n + m ≤ 9223372036854775807) (hb : (n + m) * by_ ≤ 140737488355328) :
  ∃ v' w', (Builtin.append_ #[t, t] ty #[v, .slice B m c']).run P w = .ok v' w' ∧ Mdl g (st.setR i ⟨v', e, sz, n + m, inner ++ news⟩) w' := by
 have hok := (h4.rws _ (List.mem_of_getElem? hi)).1
 have hlen : inner.length = n * sz := hok.1
 have hlen' : (inner ++ news).length = (n + m) * sz := by rw [List.length_append, hlen, hnl, Nat.add_mul]
 obtain ⟨A, c, hv, hnc, hcells, hnone⟩ := row_form hok
 simp only at hv hnc hcells hnone
 subst hv
 by_cases hroom : n + m ≤ c
 ·rcases hok.2 with ⟨a, hv, h0⟩ | ⟨gb, cap, cur, hv, hg, hc, hm, hs, htk⟩
  ·injection hv with ha hn0 hc0
   subst ha hn0 hc0
   have hm0 : m = 0 := by omega
   subst hm0
   have hn0 : news = [] := List.eq_nil_of_length_eq_zero (by simpa using hnl)
   subst hn0
   refine ⟨_, w, run_app_room ht he (hn w rfl) hroom (fun ad _ => rfl) (fun _ => rfl), ?_⟩
   refine h4.setRow i hi (Ext.refl _ _) ?_ (fun k hk => .inl hk)
   rw [List.append_nil]
   exact hok
  ·injection hv with ha hn0 hc0
   subst ha hc0
   have hfit : n * sz + news.length ≤ cur.size := by
    rw [hnl, ← Nat.add_mul]
    simp only at hs
    rw [hs]
    exact Nat.mul_le_mul_right _ hroom
   have hst := run_storeCells_at P gb (n * sz) e news 0 cur w hg (by simpa using hfit) h1
   simp only [Nat.add_zero] at hst
   have hadd := add_b gb (n * sz)
   refine ⟨_, w.setRow gb (cur.toList.take (n * sz) ++ news ++ cur.toList.drop (n * sz + news.length)).toArray, run_app_room ht he (hn w rfl) hroom (fun ad had => by injection had with had; subst had; rw [hadd]; exact hst) (fun h => by cases h), ?_⟩
   refine h4.setRow i hi ⟨rfl, rfl, rfl, by simp [World.setRow], fun k _ hk => setRow_other w gb k _ (fun e => hk (by rw [e]; rfl))⟩ ?_ (fun k hk => .inl hk)
   refine row_new (setRow_heap w gb cur _ e (0, 0) hg) hroom hm ?_ ?_
   ·simp only [List.size_toArray]
    rw [splice_len _ _ _ (by simpa using hfit), Array.length_toList]
    exact hs
   ·simp only at htk
    simp only [htk, ← hlen']
    exact List.take_left
 ·have ho : ∀ w' : World, w'.heap = w.heap → (Builtin.firstCells sz n (.slice A n c)).run P w' = .ok inner.toArray w' := fun w' hw => by
   refine run_first hlen (fun ad had j u hu => ?_) hnone
   rw [cell_of_heap (w := w) (by rw [hw])]
   exact hcells ad had j u hu
  have hgrow := run_app_grow (P := P) (w := w) (ty := ty) ht he ho hn (by omega) h63 hb
  refine ⟨_, _, hgrow, ?_⟩
  have hge := grownCap_ge w (n + m) c e
  have hcm : grownCap w (n + m) c e ≤ maxLen := grownCap_le_maxLen w (n + m) c e (by unfold maxLen; omega)
  refine (h4.same (w' := w.drew) ⟨rfl, rfl, rfl, Nat.le_refl _, fun _ _ _ => rfl⟩).setRow i hi (Ext.alloc _ _ _) ?_ (fun k hk => .inr ?_)
  ·refine row_new (heap_alloc_new w.drew _) hge hcm ?_ ?_
   ·simp only [Array.size_append, List.size_toArray, size_zeroCells, hz, hlen, hnl, ← Nat.add_mul]
    congr 1
    omega
   ·simp only [Array.toList_append, List.append_assoc]
    rw [← List.append_assoc, ← hlen']
    exact List.take_left
  ·have := row_blk_new k hk
   subst this
   exact Nat.le_refl _

theorem run_append_op {a : Act} {w w' : World} (h3 : ∀ i v, lk st.env i = some v → a.tmps[i]? = some v) {v u v' : Value} {t : Nat} (hx : opv st.env x = some v) (hy : opv st.env y = some u) (h : (Builtin.append_ #[t, t] ty #[v, u]).run P w = .ok v' w') :
  (execOp a.eval ⟨dst, .call ⟨.builtin .append, #[x, y], #[t, t]⟩, ty, pos, aft, gd⟩).run P w = .ok (.value v') w' := by
 simp [execOp, resolve, invoke, builtin, eval_of h3 hx, eval_of h3 hy, h]

/-- append(v, u...), v and u rows of the call's own. -/
theorem hv_append (i j : Nat) {v u : Value} {e n m t : Nat} {inner news : List Value} (hx : opv st.env x = some v) (hy : opv st.env y = some u) (hi : st.rw[i]? = some ⟨v, e, sz, n, inner⟩) (hj : st.rw[j]? = some ⟨u, e, sz, m, news⟩)
  (ht : P.underlying t = some (.slice e)) (he : tinf P e = some (z, sz, by_, agg)) (hz : z.cells.size = sz) (hp : Nat.blt 0 sz = true) (h1 : news.all Value.oneCell' = true)
  (h63 : n + m ≤ 9223372036854775807) (hb : (n + m) * by_ ≤ 140737488355328) (hd : Nat.blt d N = true)
  (k : ∀ v', At g N ((st.setR i ⟨v', e, sz, n + m, inner ++ news⟩).put d v') K) :
  At g N st (fun a w => Oper.wp P ⟨some d, .call ⟨.builtin .append, #[x, y], #[t, t]⟩, ty, pos, aft, gd⟩ a w K Q) := by
 refine hv_step (fun v : Value => v) (fun v' => st.setR i ⟨v', e, sz, n + m, inner ++ news⟩) (fun a w h3 h4 => ?_) hd k
 have hokj := (h4.rws _ (List.mem_of_getElem? hj)).1
 obtain ⟨B, c', hu, _, hcells, hnone⟩ := row_form hokj
 simp only at hu
 subst hu
 obtain ⟨v', w', hr, hm⟩ := app_row (P := P) (ty := ty) h4 i hi ht he hz (by simpa using hp) hokj.1 (fun w' hw => run_first hokj.1 (fun ad had j u hu => by rw [cell_of_heap (w := w) (by rw [hw])]; exact hcells ad had j u hu) hnone) (fun u hu => List.all_eq_true.1 h1 u hu) h63 hb
 exact ⟨v', w', run_append_op h3 hx hy hr, hm, rfl⟩

theorem row_snoc {α : Type} {E : Ty α} {F : Nat → Prop} {w : World} {xs : List α} {xd : α} {a c : List Value} (h : (E.row xs a).P F w) (hc : E.R F w xd c) : (E.row (xs ++ [xd]) (a ++ c)).P F w := by
 obtain ⟨h0, h1⟩ := h
 have hl := E.len hc
 refine ⟨by rw [List.length_append, h0, hl, List.length_append, List.length_singleton, Nat.add_mul, Nat.one_mul], fun i x hx => ?_⟩
 rw [List.getElem?_append] at hx
 split at hx
 ·rename_i hlt
  have := h1 i x hx
  have hle : i * E.sz + E.sz ≤ a.length := by rw [h0, ← Nat.succ_mul]; exact Nat.mul_le_mul_right _ hlt
  rw [List.drop_append_of_le_length (by omega), List.take_append_of_le_length (by rw [List.length_drop]; omega)]
  exact this
 ·rename_i hge
  have hi : i = xs.length := by
   have := (List.getElem?_eq_some_iff.1 hx).1
   simp at this
   omega
  subst hi
  simp at hx
  subst hx
  rw [← h0, List.drop_left, ← hl, List.take_length]
  exact hc
/-- A fact that follows from facts. -/
theorem at_derive {p : Act → World → Prop} (is : List Nat) {fs : List Fact} (f : Fact) (hs : sel st.fs is = fs) (h : ∀ F w, (∀ f ∈ fs, f.P F w) → f.P F w) (k : At g N (st.addF f) p) : At g N st p :=
 at_know f (fun w h4 => h _ w fun f' hf' => h4.fcs f' (mem_sel (is := is) (by rw [hs]; exact hf'))) k
theorem at_rownil {p : Act → World → Prop} {α : Type} (E : Ty α) (k : At g N (st.addF (E.row [] [])) p) : At g N st p :=
 at_know (E.row [] []) (fun _ _ => ⟨by simp, fun i x hx => by simp at hx⟩) k
theorem at_rowsnoc {p : Act → World → Prop} {α : Type} {E : Ty α} {xs : List α} {xd : α} {a c : List Value} (i j : Nat) (hi : st.fs[i]? = some (E.row xs a)) (hj : st.fs[j]? = some (E.fact xd c)) (k : At g N (st.addF (E.row (xs ++ [xd]) (a ++ c))) p) : At g N st p :=
 at_know _ (fun _ h4 => row_snoc (h4.fcs _ (List.mem_of_getElem? hi)) (h4.fcs _ (List.mem_of_getElem? hj))) k
/-- nil is a row of the call's own, too. -/
theorem at_rownew {p : Act → World → Prop} (A : Option Addr) (e sz : Nat) (k : At g N (st.addR ⟨.slice A 0 0, e, sz, 0, []⟩) p) : At g N st p := fun a w h1 h2 h3 h4 => by
 refine k a w h1 h2 h3 ⟨h4.m0, h4.ext, h4.bxs, fun r hr => ?_, ?_, fun f hf => f.mv (h4.fcs f hf) fun k hk => ⟨⟨hk.1, hk.2.1, fun hm => hk.2.2 ?_⟩, rfl⟩⟩
 ·rcases List.mem_cons.1 hr with rfl | hr
  ·exact ⟨row_nil A e sz, fun k hk => by cases A <;> simp [Row.blk] at hk⟩
  ·exact h4.rws r hr
 ·have hs := h4.sep
  simp only [St.ids, St.addR, List.map_cons] at hs ⊢
  rw [List.pairwise_append] at hs ⊢
  have hb : Row.blk ⟨.slice A 0 0, e, sz, 0, []⟩ = none := by cases A <;> rfl
  refine ⟨hs.1, List.pairwise_cons.2 ⟨fun o _ => .inl hb, hs.2.1⟩, fun a ha b hb' => ?_⟩
  rcases List.mem_cons.1 hb' with rfl | hb'
  ·rw [hb]
   obtain ⟨b', _, rfl⟩ := List.mem_map.1 ha
   exact .inr (by simp)
  ·exact hs.2.2 a ha b hb'
 ·rcases hm with hm | ⟨r, hr, hm⟩
  ·exact .inl hm
  ·rcases List.mem_cons.1 hr with rfl | hr
   ·cases A <;> simp [Row.blk] at hm
   ·exact .inr ⟨r, hr, hm⟩
/-- nil, and what reads as no element. -/
theorem at_fnil {p : Act → World → Prop} {α : Type} (E : Ty α) (A : Option Addr) (k : At g N (st.addF (E.slice.fact [] [.slice A 0 0])) p) : At g N st p :=
 at_know (E.slice.fact [] [.slice A 0 0]) (fun _ _ => ⟨A, 0, rfl, Nat.le_refl _, by unfold maxLen; omega, by simp, fun i x hx => by simp at hx⟩) k

theorem at_str {p : Act → World → Prop} (s : Str) (h : s.length ≤ 9223372036854775807) (k : At g N (st.addF (Ty.str.fact s [str s])) p) : At g N st p :=
 at_know (Ty.str.fact s [str s]) (fun _ _ => ⟨rfl, h⟩) k
theorem at_int {p : Act → World → Prop} (kd : IntKind) (n : Int) (h : lo kd ≤ n ∧ n ≤ hi kd) (k : At g N (st.addF ((Ty.int kd).fact n [.int kd n])) p) : At g N st p :=
 at_know ((Ty.int kd).fact n [.int kd n]) (fun _ _ => ⟨rfl, h⟩) k
/-- A row that is not written any more: a slice that is read from here on. -/
theorem at_release {p : Act → World → Prop} {α : Type} {E : Ty α} {xs : List α} (i j : Nat) {v : Value} {e n : Nat} {inner : List Value} (hi : st.rw[i]? = some ⟨v, e, E.sz, n, inner⟩) (hj : st.fs[j]? = some (E.row xs inner)) (hp : Nat.blt 0 E.sz = true)
  (hb : xs.length * E.bytes ≤ 140737488355328) (k : At g N { st with rw := st.rw.eraseIdx i, fs := E.slice.fact xs [v] :: st.fs } p) : At g N st p := fun a w h1 h2 h3 h4 => by
 refine k a w h1 h2 h3 ?_
 have hmem := List.mem_of_getElem? hi
 have hilt := (List.getElem?_eq_some_iff.1 hi).1
 have hsub : ∀ r' ∈ st.rw.eraseIdx i, r' ∈ st.rw := fun r' hr' => List.mem_of_mem_eraseIdx hr'
 have hok := (h4.rws _ hmem).1
 have hrow := h4.fcs _ (List.mem_of_getElem? hj)
 have hp' : 0 < E.sz := by simpa using hp
 have hn : n = xs.length := by
  have h5 := hok.1
  simp only at h5
  rw [hrow.1] at h5
  exact (Nat.eq_of_mul_eq_mul_right hp' h5).symm
 have hmut : ∀ k, St.mut { st with rw := st.rw.eraseIdx i, fs := E.slice.fact xs [v] :: st.fs } k → st.mut k := fun k hk => by
  rcases hk with hb | ⟨r', hr', he⟩
  ·exact .inl hb
  ·exact .inr ⟨r', hsub r' hr', he⟩
 have hne : ∀ q, Row.blk ⟨v, e, E.sz, n, inner⟩ = some q → ¬ St.mut { st with rw := st.rw.eraseIdx i, fs := E.slice.fact xs [v] :: st.fs } q := fun q hq hk => by
  have hidi : st.ids[st.bx.length + i]? = some (some q) := by
   unfold St.ids
   rw [List.getElem?_append_right (by simp)]
   simp [hi, hq]
  rcases hk with ⟨b', hb', he⟩ | ⟨r, hr, he⟩
  ·obtain ⟨j, hj⟩ := List.getElem?_of_mem hb'
   have h5 : st.ids[j]? = some (some q) := by
    unfold St.ids
    rw [List.getElem?_append_left (by simpa using (List.getElem?_eq_some_iff.1 hj).1), List.getElem?_map, hj, Option.map_some, he]
   have := pairwise_ne h4.sep h5 hidi
   have := (List.getElem?_eq_some_iff.1 hj).1
   simp only at this
   omega
  ·obtain ⟨j, hj⟩ := List.getElem?_of_mem hr
   simp only at hj
   rw [List.getElem?_eraseIdx] at hj
   split at hj
   ·have h5 : st.ids[st.bx.length + j]? = some (some q) := by
     unfold St.ids
     rw [List.getElem?_append_right (by simp)]
     simp [hj, he]
    have := pairwise_ne h4.sep h5 hidi
    omega
   ·have h5 : st.ids[st.bx.length + (j + 1)]? = some (some q) := by
     unfold St.ids
     rw [List.getElem?_append_right (by simp)]
     simp [hj, he]
    have := pairwise_ne h4.sep h5 hidi
    omega
 refine ⟨h4.m0, h4.ext, h4.bxs, fun r' hr' => h4.rws r' (hsub r' hr'), ?_, fun f hf => ?_⟩
 ·refine List.Pairwise.sublist ?_ h4.sep
  exact (List.Sublist.refl _).append ((List.eraseIdx_sublist st.rw i).map _)
 ·rcases List.mem_cons.1 hf with rfl | hf
  ·obtain ⟨A, c, hv, hnc, hcells, hnone⟩ := row_form hok
   simp only at hv hnc hcells hnone
   subst hn
   have hcm : c ≤ maxLen := by
    rcases hok.2 with ⟨a', hv', _⟩ | ⟨gb, cap, cur, hv', _, _, hm, _⟩
    ·simp only at hv'; rw [hv] at hv'; injection hv' with _ _ hc0; subst hc0; exact Nat.zero_le _
    ·simp only at hv'; rw [hv] at hv'; injection hv' with _ _ hc0; subst hc0; exact hm
   refine ⟨A, c, by rw [hv], hnc, hcm, hb, fun q x hx => ?_⟩
   have hq := (List.getElem?_eq_some_iff.1 hx).1
   cases A with
   | none => have := hnone rfl; omega
   | some ad =>
    have hR := hrow.2 q x hx
    refine ⟨ad, _, rfl, E.mv hR (fun k hk => ⟨⟨hk.1, hk.2.1, fun hm => hk.2.2 (hmut k hm)⟩, rfl⟩), fun jj u hu => ?_⟩
    rw [List.getElem?_take] at hu
    split at hu
    ·rw [List.getElem?_drop] at hu
     have hcc := hcells ad rfl _ u hu
     refine ⟨?_, hcc⟩
     have hblt := World.block_lt_of_cell? w _ hcc
     rw [add_block] at hblt
     have hblk : Row.blk ⟨v, e, E.sz, xs.length, inner⟩ = some ad.block := by
      rw [hv]
      cases c with
      | zero => omega
      | succ c => rfl
     exact ⟨hblt, ((h4.rws _ hmem).2 _ hblk).2, hne _ hblk⟩
    ·cases hu
  ·exact f.mv (h4.fcs f hf) fun k hk => ⟨⟨hk.1, hk.2.1, fun hm => hk.2.2 (hmut k hm)⟩, rfl⟩
end
end Go.WK
