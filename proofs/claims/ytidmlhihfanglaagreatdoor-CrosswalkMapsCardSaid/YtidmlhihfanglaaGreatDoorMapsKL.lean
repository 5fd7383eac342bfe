/- WK, part l: rows with a length, elements of rows written and read, the lesser of two. No program in sight. -/
import Derived.Test.YtidmlhihfanglaaGreatDoorMapsKK
set_option linter.unusedSimpArgs false
set_option linter.unusedVariables false
namespace Go.WK
open Go.RowKit

theorem put_take (A c : List Value) (o m : Nat) (h : o + c.length ≤ m) (hm : m ≤ A.length) : (A.take o ++ c ++ A.drop (o + c.length)).take m = (A.take m).take o ++ c ++ (A.take m).drop (o + c.length) := by
 apply List.ext_getElem?
 intro j
 simp only [List.getElem?_take, List.getElem?_append, List.getElem?_drop, List.length_append, List.length_take]
 by_cases h1 : j < o
 ·have : j < m := by omega
  have h2 : j < min o A.length := by omega
  have h3 : j < min o (min m A.length) := by omega
  simp [h1, this, h2, h3]
  rw [if_pos (by omega), if_pos (by omega)]
 ·by_cases h2 : j < o + c.length
  ·have h3 : j < m := by omega
   have e1 : min o A.length = o := by omega
   have e2 : min o (min m A.length) = o := by omega
   simp [e1, e2, h1, h2, h3]
  ·have e1 : min o A.length = o := by omega
   have e2 : min o (min m A.length) = o := by omega
   by_cases h3 : j < m
   ·have h4 : o + c.length + (j - (o + c.length)) < m := by omega
    simp only [e1, e2, h2, h3, h4, if_true, if_false]
   ·have h4 : ¬ (o + c.length + (j - (o + c.length)) < m) := by omega
    simp only [e1, e2, h2, h3, h4, if_true, if_false]

section
variable {P : Program} {Q : Exit → Act → World → Prop} {g : Gh} {N : Nat} {st : St} {K : Act → World → Prop} {d ty T : Nat} {x y : Operand} {pos : String} {aft : Array Edge} {dst : Option Nat} {gd : Option (Nat × Bool)}
variable {z : Value} {sz by_ : Nat} {agg : Bool}

/-- The address of an element of a row. -/
theorem at_rowat {q : Act → World → Prop} (i : Nat) {v : Value} {e n : Nat} {inner : List Value} {ix : Int} (hi : st.rw[i]? = some ⟨v, e, sz, n, inner⟩) (h0 : 0 ≤ ix) (h1 : ix < n) (k : ∀ p, PtrAt v sz ix n p → At g N st q) : At g N st q := fun a w e1 e2 e3 e4 => by
 obtain ⟨A, c, hv, _, _, hn⟩ := row_form (e4.rws _ (List.mem_of_getElem? hi)).1
 simp only at hv hn
 cases A with
 | none => have := hn rfl; omega
 | some ad => exact k _ ⟨ad, c, hv, h0, h1, rfl⟩ a w e1 e2 e3 e4

theorem hv_store_row (i ix : Nat) {v u : Value} {e n : Nat} {inner cs inner' : List Value} {p : Addr} {ixI : Int} (hx : opv st.env x = some (.pointer (some (p.add 0)))) (hy : opv st.env y = some u) (ht : tinf P T = some (z, sz, by_, agg)) (hi : st.rw[i]? = some ⟨v, e, sz, n, inner⟩)
  (hp : PtrAt v sz ixI n p) (hix : ixI = (ix : Int)) (hc : u.cells.toList = cs) (hl : cs.length = sz) (h1 : cs.all Value.oneCell' = true) (hs : inner.take (ix * sz) ++ cs ++ inner.drop (ix * sz + cs.length) = inner')
  (k : At g N (st.setR i ⟨v, e, sz, n, inner'⟩) K) : At g N st (fun a w => Oper.wp P ⟨none, .store T x y, ty, pos, aft, gd⟩ a w K Q) := by
 intro a w e1 e2 e3 e4
 subst hix hc hs
 obtain ⟨ad, c, hv, h0, hlt, rfl⟩ := hp
 have hlt' : ix < n := by omega
 have hok := (e4.rws _ (List.mem_of_getElem? hi)).1
 obtain ⟨hlen, hcase⟩ := hok
 simp only at hlen hcase
 rcases hcase with ⟨a', _, hn⟩ | ⟨gb, cap, cur, hv', hg, hcap, hmax, hsize, htake⟩
 ·omega
 ·have hvv := hv.symm.trans hv'
  injection hvv with hA hnn hcc
  injection hA with hA
  subst hA
  have hadd : (⟨gb, 0, none⟩ : Addr).add ((ix : Int).toNat * sz) = ⟨gb, ix * sz, none⟩ := by rw [add_b]; simp
  rw [hadd, add_zero'] at hx
  have hle : ix * sz + sz ≤ n * sz := by rw [← Nat.succ_mul]; exact Nat.mul_le_mul_right _ hlt'
  have hle2 : n * sz ≤ (cap + 1) * sz := Nat.mul_le_mul_right _ hcap
  have hfit : ix * sz + 0 + u.cells.toList.length ≤ cur.size := by rw [hl, hsize]; omega
  have hst := run_storeCells_at P gb (ix * sz) e u.cells.toList 0 cur w hg hfit (fun q hq => List.all_eq_true.1 h1 q hq)
  simp only [Nat.add_zero] at hst
  have hrun : (execOp a.eval ⟨none, .store T x y, ty, pos, aft, gd⟩).run P w = .ok .skip (w.setRow gb (cur.toList.take (ix * sz) ++ u.cells.toList ++ cur.toList.drop (ix * sz + u.cells.toList.length)).toArray) := by
   have hsz : u.cells.size = sz := by rw [← hl]; simp
   simp [execOp, eval_of e3 hx, eval_of e3 hy, Instr.storeAt, Instr.sureAddr, storeVar, run_sizeOf ht, hsz, hst]
  unfold Oper.wp
  rw [hrun]
  have hcl : cur.toList.length = (cap + 1) * sz := by simpa using hsize
  refine k a _ e1 e2 e3 (Mdl.setRow e4 i hi ⟨rfl, rfl, rfl, by simp [World.setRow], fun q _ hq => setRow_other w gb q _ (fun he => hq (by subst he; simp [Row.blk, hv']))⟩ ⟨?_, .inr ⟨gb, cap, _, hv', setRow_heap w gb cur _ e (0, 0) hg, hcap, hmax, ?_, ?_⟩⟩ (fun q hq => .inl hq))
  ·simp only [List.length_append, List.length_take, List.length_drop, hlen, hl]; omega
  ·simp only [List.size_toArray, List.length_append, List.length_take, List.length_drop, hcl, hl]; omega
  ·rw [← htake]
   exact put_take cur.toList u.cells.toList (ix * sz) (n * sz) (by rw [hl]; omega) (by rw [hcl]; omega)

theorem row_set {α : Type} {E : Ty α} {F : Nat → Prop} {w : World} {xs : List α} {inner c : List Value} {xd : α} {ix : Nat} (h : (E.row xs inner).P F w) (hx : E.R F w xd c) (hi : ix < xs.length) :
  (E.row (xs.set ix xd) (inner.take (ix * E.sz) ++ c ++ inner.drop (ix * E.sz + c.length))).P F w := by
 obtain ⟨h0, h1⟩ := h
 have hl := E.len hx
 have hle : ix * E.sz + E.sz ≤ xs.length * E.sz := by rw [← Nat.succ_mul]; exact Nat.mul_le_mul_right _ hi
 refine ⟨by simp only [List.length_append, List.length_take, List.length_drop, List.length_set, h0, hl]; omega, fun j y hy => ?_⟩
 rw [List.getElem?_set] at hy
 have hA : (inner.take (ix * E.sz)).length = ix * E.sz := by rw [List.length_take]; omega
 split at hy
 ·rename_i he
  subst he
  injection hy with hy
  subst hy
  rw [List.append_assoc, List.drop_left' hA, List.take_left' hl]
  exact hx
 ·rename_i hne
  have := h1 j y hy
  have hjlt := (List.getElem?_eq_some_iff.1 hy).1
  have e : ((inner.take (ix * E.sz) ++ c ++ inner.drop (ix * E.sz + c.length)).drop (j * E.sz)).take E.sz = (inner.drop (j * E.sz)).take E.sz := by
   apply List.ext_getElem?
   intro q
   simp only [List.getElem?_take, List.getElem?_drop, List.getElem?_append, List.length_append, List.length_take, h0, hl]
   by_cases hq : q < E.sz
   ·simp only [hq, if_true]
    have hm : min (ix * E.sz) (xs.length * E.sz) = ix * E.sz := by omega
    rw [hm]
    rcases Nat.lt_or_ge j ix with hj | hj
    ·have h5 : j * E.sz + E.sz ≤ ix * E.sz := by rw [← Nat.succ_mul]; exact Nat.mul_le_mul_right _ hj
     rw [if_pos (by omega), if_pos (by omega), if_pos (by omega)]
    ·have h5 : ix * E.sz + E.sz ≤ j * E.sz := by rw [← Nat.succ_mul]; exact Nat.mul_le_mul_right _ (by omega)
     rw [if_neg (by omega)]
     congr 1
     omega
   ·simp only [hq, if_false]
  rw [e]
  exact this
theorem at_rowset {p : Act → World → Prop} {α : Type} {E : Ty α} {xs : List α} {xd : α} {inner c inner' : List Value} (i j ix : Nat) (hi : st.fs[i]? = some (E.row xs inner)) (hj : st.fs[j]? = some (E.fact xd c)) (hlt : ix < xs.length) (he : inner.take (ix * E.sz) ++ c ++ inner.drop (ix * E.sz + c.length) = inner')
  (k : At g N (st.addF (E.row (xs.set ix xd) inner')) p) : At g N st p := by
 subst he
 exact at_know _ (fun _ h4 => row_set (h4.fcs _ (List.mem_of_getElem? hi)) (h4.fcs _ (List.mem_of_getElem? hj)) hlt) k

/-- 'make([]T, n)', of a type whose zero is one cell. -/
theorem hv_make1 {t e : Nat} {kl kc : IntKind} {lI cI : Int} {α : Type} {E : Ty α} (zx : α) (n : Nat) (hE : E.sz = 1) (hx : opv st.env x = some (.int kl lI)) (hy : opv st.env y = some (.int kc cI)) (hl : lI = (n : Int)) (hcI : cI = (n : Int)) (ht : P.underlying t = some (.slice e)) (he : tinf P e = some (z, E.sz, by_, agg))
  (hz : z.cells = #[z]) (hR : ∀ F w, E.R F w zx [z]) (hb : by_ * n ≤ 281474976710656) (hm : n ≤ 9223372036854775807) (hd : Nat.blt d N = true)
  (k : ∀ v inner, At g N (((st.addR ⟨v, e, E.sz, n, inner⟩).addF (E.row (List.replicate n zx) inner)).put d v) K) : At g N st (fun a w => Oper.wp P ⟨some d, .makeSlice t x y, ty, pos, aft, gd⟩ a w K Q) := by
 subst hl hcI
 refine hv_step (fun v : Value × List Value => v.1) (fun v => (st.addR ⟨v.1, e, E.sz, n, v.2⟩).addF (E.row (List.replicate n zx) v.2)) (fun a w h3 h4 => ?_) hd (fun s => k s.1 s.2)
 obtain ⟨i, hi, hzz, hs, hby⟩ := tinf_info he
 have hb' : (i.bytes : Int) * (n : Int) ≤ 281474976710656 := by
  subst hby
  have h : ((i.bytes * n : Nat) : Int) ≤ 281474976710656 := by omega
  rwa [Int.natCast_mul] at h
 have hr := run_make (P := P) w t e i z ht hi hzz kl kc n n (by omega) (Int.le_refl _) hb' (by omega)
 simp only [Int.toNat_natCast] at hr
 have hcells : (madeCells z.cells (n * i.size)).toList = List.replicate n z := by
  rw [hs, hE, Nat.mul_one, hz]
  apply List.ext_getElem?
  intro j
  simp [madeCells, List.getElem?_replicate, Array.getElem?_range]
  by_cases hj : j < n <;> simp [hj, Nat.mod_one]
 refine ⟨(.slice (some ⟨w.heap.size, 0, none⟩) n n, List.replicate n z), _, ?_, (h4.newRow ⟨.slice (some ⟨w.heap.size, 0, none⟩) n n, e, E.sz, n, List.replicate n z⟩ (madeCells z.cells (n * i.size)) e ?_ row_blk_new).addF _ ⟨?_, fun j q hq => ?_⟩, rfl⟩
 ·simp only [execOp, eval_of h3 hx, eval_of h3 hy, Sem.run_bind, hr, Result.andThen_ok, Sem.run_pure]
 ·refine row_new (heap_alloc_new w _) (Nat.le_refl _) hm (by rw [size_madeCells, hs]) ?_
  rw [hcells, hE, Nat.mul_one, List.take_of_length_le (by simp)]
 ·simp [hE]
 ·obtain ⟨hj, rfl⟩ : j < n ∧ zx = q := by
   rw [List.getElem?_replicate] at hq
   split at hq
   ·exact ⟨by assumption, by simpa using hq⟩
   ·cases hq
  rw [hE, Nat.mul_one]
  have : ((List.replicate n z).drop j).take 1 = [z] := by
   rw [List.drop_replicate]
   cases hnj : n - j with
   | zero => omega
   | succ m => simp [List.replicate_succ]
  rw [this]
  exact hR _ _

theorem lt_min {kd : IntKind} {a b : Int} {tys : Array TypeId} (hx : opv st.env x = some (.int kd a)) (hy : opv st.env y = some (.int kd b)) : Lt P st ⟨dst, .call ⟨.builtin .min, #[x, y], tys⟩, ty, pos, aft, gd⟩ (.int kd (min a b)) := fun a' w h3 _ => by
 simp [execOp, resolve, invoke, builtin, Builtin.min_, Builtin.min2, eval_of h3 hx, eval_of h3 hy]
 rw [Int.min_def]
 split <;> split <;> omega
end
end Go.WK
