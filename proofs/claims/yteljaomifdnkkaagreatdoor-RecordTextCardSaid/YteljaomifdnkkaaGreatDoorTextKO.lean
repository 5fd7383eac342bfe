/- WK, part o: a row as a variable while its elements are read and written; contracts of what writes rows that come in. No program in sight. -/
import Derived.Test.YteljaomifdnkkaaGreatDoorTextKN
set_option linter.unusedSimpArgs false
set_option linter.unusedVariables false
namespace Go.WK
open Go.RowKit

/-- What must hold of a row's block besides its cells. -/
def RowF (v : Value) (g n sz cap len : Nat) : Prop := v = .slice (some ⟨g, 0, none⟩) n (cap + 1) ∧ n ≤ cap + 1 ∧ cap + 1 ≤ maxLen ∧ len = (cap + 1) * sz

section
variable {P : Program} {Q : Exit → Act → World → Prop} {g : Gh} {N : Nat} {st : St} {K : Act → World → Prop} {d ty T : Nat} {x y : Operand} {pos : String} {aft : Array Edge} {dst : Option Nat} {gd : Option (Nat × Bool)}
variable {z : Value} {sz by_ : Nat} {agg : Bool}

theorem apart_symm {a b : Option Nat} (h : a = none ∨ a ≠ b) : b = none ∨ b ≠ a := by
 cases b with
 | none => exact .inl rfl
 | some k =>
  refine .inr fun e => ?_
  rcases h with h | h
  ·rw [h] at e; cases e
  ·exact h e.symm

theorem mut_perm {st st' : St} (h : st'.ids.Perm st.ids) {k : Nat} (hk : st'.mut k) : st.mut k := by
 have hm : some k ∈ st'.ids := by
  unfold St.ids
  rcases hk with ⟨b, hb, rfl⟩ | ⟨r, hr, he⟩
  ·exact List.mem_append_left _ (List.mem_map.2 ⟨b, hb, rfl⟩)
  ·exact List.mem_append_right _ (List.mem_map.2 ⟨r, hr, he⟩)
 exact mem_ids (h.mem_iff.1 hm) k rfl
theorem Mdl.perm {st st' : St} {w : World} (h : Mdl g st w) (hp : st'.ids.Perm st.ids) (hb : ∀ b ∈ st'.bx, b.ok w) (hr : ∀ r ∈ st'.rw, r.ok w) (hf : st'.fs = st.fs) : Mdl g st' w := by
 have mine : ∀ k, st'.mut k → g.mine k := fun k hk => by
  rcases mut_perm hp hk with ⟨b, hb, rfl⟩ | ⟨r, hr, he⟩
  ·exact (h.bxs b hb).2
  ·exact (h.rws r hr).2 k he
 refine ⟨h.m0, h.ext, fun b hb' => ⟨hb b hb', mine _ (.inl ⟨b, hb', rfl⟩)⟩, fun r hr' => ⟨hr r hr', fun k hk => mine _ (.inr ⟨r, hr', hk⟩)⟩, ?_, fun f hf' => ?_⟩
 ·exact (hp.pairwise_iff apart_symm).2 h.sep
 ·exact f.mv (h.fcs f (by rw [← hf]; exact hf')) fun k hk => ⟨⟨hk.1, hk.2.1, fun hm => hk.2.2 (mut_perm hp hm)⟩, rfl⟩

theorem erase_perm {α : Type} : ∀ {l : List α} {i : Nat} {x : α}, l[i]? = some x → (x :: l.eraseIdx i).Perm l
 | [], i, x, h => by simp at h
 | a :: l, 0, x, h => by simp at h; subst h; exact List.Perm.refl _
 | a :: l, i + 1, x, h => by
  rw [List.eraseIdx_cons_succ]
  exact (List.Perm.swap a x _).trans ((erase_perm (l := l) (i := i) (by simpa using h)).cons a)

/-- A row with elements as a variable. -/
theorem at_box {q : Act → World → Prop} (i : Nat) {v : Value} {e n : Nat} {inner : List Value} (hi : st.rw[i]? = some ⟨v, e, sz, n, inner⟩) (h0 : 0 < n)
  (k : ∀ b rest cap, inner.length = n * sz → RowF v b n sz cap (inner ++ rest).length → At g N { st with bx := ⟨b, inner ++ rest, e⟩ :: st.bx, rw := st.rw.eraseIdx i } q) : At g N st q := fun a w e1 e2 e3 e4 => by
 have hm := List.mem_of_getElem? hi
 obtain ⟨hlen, hcase⟩ := (e4.rws _ hm).1
 simp only at hlen hcase
 rcases hcase with ⟨a', _, hn⟩ | ⟨b, cap, cur, hv, hg, hcap, hmax, hsize, htake⟩
 ·omega
 ·have hcur : inner ++ cur.toList.drop (n * sz) = cur.toList := by rw [← htake]; exact List.take_append_drop _ _
  refine k b (cur.toList.drop (n * sz)) cap hlen ⟨hv, hcap, hmax, by rw [hcur]; simpa using hsize⟩ a w e1 e2 e3 (e4.perm ?_ ?_ ?_ rfl)
  ·have hpm := erase_perm hi
   have hmap := hpm.map Row.blk
   have hb : Row.blk ⟨v, e, sz, n, inner⟩ = some b := by simp [Row.blk, hv]
   simp only [List.map_cons, hb] at hmap
   unfold St.ids
   simp only [List.map_cons, List.cons_append]
   exact (List.perm_middle.symm).trans (List.Perm.append_left _ hmap)
  ·intro b' hb'
   rcases List.mem_cons.1 hb' with rfl | hb'
   ·unfold Box.ok; simp only; rw [hcur]; simpa using hg
   ·exact (e4.bxs b' hb').1
  ·intro r hr
   exact (e4.rws r (List.mem_of_mem_eraseIdx hr)).1
/-- .. and back. -/
theorem at_unbox {q : Act → World → Prop} {b : Nat} {v : Value} {e n cap : Nat} {inner rest : List Value} {bx : List Box} (hb : st.bx = ⟨b, inner ++ rest, e⟩ :: bx) (hl : inner.length = n * sz) (hf : RowF v b n sz cap (inner ++ rest).length)
  (k : At g N { st with bx := bx, rw := ⟨v, e, sz, n, inner⟩ :: st.rw } q) : At g N st q := fun a w e1 e2 e3 e4 => by
 obtain ⟨hv, hcap, hmax, hsize⟩ := hf
 have hk := (e4.bxs ⟨b, inner ++ rest, e⟩ (by rw [hb]; exact List.mem_cons_self)).1
 unfold Box.ok at hk
 simp only at hk
 refine k a w e1 e2 e3 (e4.perm ?_ ?_ ?_ rfl)
 ·unfold St.ids
  have hbk : Row.blk ⟨v, e, sz, n, inner⟩ = some b := by simp [Row.blk, hv]
  simp only [hb, List.map_cons, List.cons_append, hbk]
  exact List.perm_middle
 ·intro b' hb'
  exact (e4.bxs b' (by rw [hb]; exact List.mem_cons_of_mem _ hb')).1
 ·intro r hr
  rcases List.mem_cons.1 hr with rfl | hr
  ·refine ⟨hl, .inr ⟨b, cap, _, hv, hk, hcap, hmax, by simpa using hsize, ?_⟩⟩
   simp only
   rw [← hl, List.take_left]
  ·exact (e4.rws r hr).1
theorem ptrAt_of {v : Value} {b n cap len : Nat} {ix : Int} (hf : RowF v b n sz cap len) (h0 : 0 ≤ ix) (h1 : ix < n) : PtrAt v sz ix n ((⟨b, 0, none⟩ : Addr).add (ix.toNat * sz)) :=
 ⟨_, _, hf.1, h0, h1, rfl⟩
/-- An element's cells, of a row that is a variable. -/
theorem at_relem {q : Act → World → Prop} (j : Nat) {α : Type} {E : Ty α} {xs : List α} {xd : α} {inner : List Value} (rest : List Value) {ix : Int} (hj : st.fs[j]? = some (E.row xs inner)) (hx : at? xs ix = some xd)
  (k : ∀ ec, ((inner ++ rest).drop (ix.toNat * E.sz)).take E.sz = ec → At g N (st.addF (E.fact xd ec)) q) : At g N st q := fun a w e1 e2 e3 e4 => by
 have hrow := e4.fcs _ (List.mem_of_getElem? hj)
 have h0 := at?_get hx
 have hlt := (List.getElem?_eq_some_iff.1 h0).1
 have hfit : ix.toNat * E.sz + E.sz ≤ inner.length := by rw [hrow.1, ← Nat.succ_mul]; exact Nat.mul_le_mul_right _ hlt
 refine k ((inner.drop (ix.toNat * E.sz)).take E.sz) ?_ a w e1 e2 e3 (e4.addF _ (hrow.2 _ _ h0))
 rw [List.drop_append_of_le_length (by omega), List.take_append_of_le_length (by simp; omega)]
theorem lt_load_rb (i : Nat) {b k : Nat} {cs vs : List Value} {t : TypeId} {v : Value} (hx : opv st.env x = some (.pointer (some (((⟨b, 0, none⟩ : Addr).add k).add 0)))) (ht : tinf P T = some (z, sz, by_, agg)) (hb : st.bx[i]? = some ⟨b, cs, t⟩)
  (hs : (cs.drop k).take sz = vs) (hl : vs.length = sz) (hp : Nat.blt 0 sz = true) (hv : ldv agg vs = v) : Lt P st ⟨dst, .load T x, ty, pos, aft, gd⟩ v :=
 lt_load_box i (by rw [hx, add_zero']) ht hb hs hl hp hv
theorem rb_set {inner rest cs : List Value} {k m : Nat} (h : k + cs.length ≤ m) (hm : inner.length = m) : (inner ++ rest).take k ++ cs ++ (inner ++ rest).drop (k + cs.length) = (inner.take k ++ cs ++ inner.drop (k + cs.length)) ++ rest := by
 rw [List.take_append_of_le_length (by omega), List.drop_append_of_le_length (by omega)]
 simp
theorem hv_store_rb (i : Nat) {b k m : Nat} {inner rest cs inner' : List Value} {t : TypeId} {v : Value} (hx : opv st.env x = some (.pointer (some (((⟨b, 0, none⟩ : Addr).add k).add 0)))) (hy : opv st.env y = some v) (ht : tinf P T = some (z, sz, by_, agg)) (hb : st.bx[i]? = some ⟨b, inner ++ rest, t⟩)
  (hc : v.cells.toList = cs) (hl : cs.length = sz) (hm : inner.length = m) (hfit : k + sz ≤ m) (h1 : cs.all Value.oneCell' = true) (hi : inner.take k ++ cs ++ inner.drop (k + cs.length) = inner')
  (k' : At g N (st.setB i ⟨b, inner' ++ rest, t⟩) K) : At g N st (fun a w => Oper.wp P ⟨none, .store T x y, ty, pos, aft, gd⟩ a w K Q) := by
 subst hc hi
 refine hv_store_box i (by rw [hx, add_zero']) hy ht hb (rb_set (by rw [hl]; exact hfit) hm) hl ?_ h1 k'
 rw [Nat.ble_eq]; simp; omega
theorem rb_len {inner cs : List Value} {k m : Nat} (h : k + cs.length ≤ m) (hm : inner.length = m) : (inner.take k ++ cs ++ inner.drop (k + cs.length)).length = m := by
 simp only [List.length_append, List.length_take, List.length_drop]; omega
theorem RowF.len {v : Value} {b n cap l l' : Nat} (h : RowF v b n sz cap l) (e : l' = l) : RowF v b n sz cap l' := by subst e; exact h
end

end Go.WK
