/- WK, part r: errors that are compared with nil; strings appended to rows of bytes. No program in sight. -/
import Derived.Test.YteljaomifdnkkaaGreatDoorCompareKQ
import Derived.Lib.AppendStr
set_option linter.unusedSimpArgs false
set_option linter.unusedVariables false
namespace Go.WK
open Go.RowKit
set_option linter.unusedVariables false
set_option linter.unusedSimpArgs false

/-! ### errors: nil or not -/
def Ty.err : Ty Bool where
  sz := 1
  bytes := 16
  R := fun _ _ b cs => (b = true ∧ cs = [.nilIface]) ∨ (b = false ∧ ∃ t p, cs = [.iface t p])
  inv := fun _ => True
  len := fun h => by rcases h with ⟨_, rfl⟩ | ⟨_, t, p, rfl⟩ <;> rfl
  one := fun h u hu => by rcases h with ⟨_, rfl⟩ | ⟨_, t, p, rfl⟩ <;> simp at hu <;> rw [hu] <;> rfl
  pure := fun _ => trivial
  mv := fun h _ => h

section
variable {P : Program} {st : St} {ty T yt : Nat} {x : Operand} {pos : String} {aft : Array Edge} {dst : Option Nat} {gd : Option (Nat × Bool)}
theorem eq_nn {ms : Array (String × TypeId)} (hT : P.underlying T = some (.interface ms)) (w : World) : (Op.equal T .nilIface .nilIface).run P w = .ok true w := by
 show (Op.equalIn (9999 + 1) T .nilIface .nilIface).run P w = _
 generalize 9999 = d
 simp [Op.equalIn, run_underlying hT]
theorem eq_in {ms : Array (String × TypeId)} (hT : P.underlying T = some (.interface ms)) (t : TypeId) (p : Value) (w : World) : (Op.equal T (.iface t p) .nilIface).run P w = .ok false w := by
 show (Op.equalIn (9999 + 1) T (.iface t p) .nilIface).run P w = _
 generalize 9999 = d
 simp [Op.equalIn, run_underlying hT]
theorem lt_errq (i : Nat) {v : Value} {b : Bool} {ms : Array (String × TypeId)} (hx : opv st.env x = some v) (hf : st.fs[i]? = some (Ty.err.fact b [v])) (hT : P.underlying T = some (.interface ms)) :
  Lt P st ⟨dst, .binOp .eql T x (.const .nilIface) yt, ty, pos, aft, gd⟩ (.bool b) := fun a w h3 h4 => by
 obtain ⟨F, h⟩ := h4.fcs _ (List.mem_of_getElem? hf)
 rcases h with ⟨rfl, h⟩ | ⟨rfl, t, p, h⟩
 ·injection h with h
  subst h
  simp [execOp, eval_of h3 hx, show a.eval (.const .nilIface) = .nilIface from rfl, eqGuard, binOp, eq_nn hT, eq_in hT]
 ·injection h with h
  subst h
  simp [execOp, eval_of h3 hx, show a.eval (.const .nilIface) = .nilIface from rfl, eqGuard, binOp, eq_nn hT, eq_in hT]
end

/-! ### append(b, s...), s a string -/
def u8s (s : Str) : List Value := s.map fun c => .int .u8 (c.toNat : Int)
theorem u8s_len (s : Str) : (u8s s).length = s.length := by simp [u8s]
theorem u8s_app (a b : Str) : u8s (a ++ b) = u8s a ++ u8s b := by simp [u8s]
theorem u8s_one (s : Str) : ∀ u ∈ u8s s, u.oneCell' = true := by
 intro u hu
 simp only [u8s, List.mem_map] at hu
 obtain ⟨b, _, rfl⟩ := hu
 rfl
theorem u8s_row {xs : Str} {F : Nat → Prop} {w : World} : (Ty.u8.row xs (u8s xs)).P F w := by
 refine ⟨by simp [u8s, Ty.u8, Ty.sc], fun i x hx => ?_⟩
 have h1 : i < xs.length := (List.getElem?_eq_some_iff.1 hx).1
 have h2 : xs[i] = x := (List.getElem?_eq_some_iff.1 hx).2
 refine ⟨?_, trivial⟩
 show ((u8s xs).drop (i * 1)).take 1 = _
 rw [Nat.mul_one, List.drop_eq_getElem_cons (by rw [u8s_len]; exact h1), List.take_succ_cons, List.take_zero]
 simp [u8s, h2]
section
variable {P : Program} {w : World}
theorem run_first_s (sz : Nat) (s : Str) : (Builtin.firstCells sz s.length (str s)).run P w = .ok (u8s s).toArray w := by
 have := Lib.run_firstCells_string (P := P) w sz ⟨s.toArray⟩
 have h : (⟨s.toArray⟩ : ByteArray).size = s.length := by simp [ByteArray.size]
 rw [h] at this
 simpa [str, Lib.strCells, u8s] using this
theorem run_app_grow_s {t u ty e : TypeId} {z : Value} {sz by_ : Nat} {agg : Bool} (ht : P.underlying t = some (.slice e)) (hu : P.underlying u = some .string) (he : tinf P e = some (z, sz, by_, agg))
  {A : Option Addr} {n c : Nat} {s : Str} {olds : List Value} (ho : ∀ w' : World, w'.heap = w.heap → (Builtin.firstCells sz n (.slice A n c)).run P w' = .ok olds.toArray w')
  (hg : c < n + s.length) (h63 : n + s.length ≤ 9223372036854775807) (hb : (n + s.length) * by_ ≤ 140737488355328) :
  (Builtin.append_ #[t, u] ty #[.slice A n c, str s]).run P w =
   .ok (.slice (some ⟨w.heap.size, 0, none⟩) (n + s.length) (grownCap w (n + s.length) c e)) (w.drew.alloc (.cells (olds.toArray ++ (u8s s).toArray ++ Builtin.zeroCells z.cells (grownCap w (n + s.length) c e - (n + s.length))) e)) := by
 obtain ⟨i, hi, hz, hs, hby⟩ := tinf_info he
 have h1 : ¬ (n + s.length ≤ c) := by omega
 have h63' : ¬ (9223372036854775807 < ((n : Int) + (s.length : Int))) := by omega
 have hfit := growslice_fits (old := c) hg hb
 rw [← hby] at hfit
 have h48' : ¬ (281474976710656 < Builtin.nextslicecap (n + s.length) c * i.bytes) := by omega
 have ho' := ho w.drew rfl
 have hn' := run_first_s (P := P) (w := w.drew) i.size s
 subst hs
 have hsz : (⟨s.toArray⟩ : ByteArray).size = s.length := by simp [ByteArray.size]
 unfold str at hn' ⊢
 simp [Builtin.append_, run_underlying ht, run_underlying hu, sizeOf, typeInfo, zeroValue, hi, hz, Builtin.lenOf, hsz, h1, h63', h48', Question.forced, ho', hn', newRow, grownCap]
 rw [← List.append_toArray, Array.append_assoc]
theorem run_app_room_s {t u ty e : TypeId} {z : Value} {sz by_ : Nat} {agg : Bool} (ht : P.underlying t = some (.slice e)) (hu : P.underlying u = some .string) (he : tinf P e = some (z, sz, by_, agg))
  {A : Option Addr} {n c : Nat} {s : Str}
  (hg : n + s.length ≤ c) {w' : World} (hst : ∀ ad, A = some ad → (storeCells (ad.add (n * sz)) (u8s s)).run P w = .ok () w') (hno : A = none → w' = w) :
  (Builtin.append_ #[t, u] ty #[.slice A n c, str s]).run P w = .ok (.slice A (n + s.length) c) w' := by
 obtain ⟨i, hi, hz, hs, hby⟩ := tinf_info he
 subst hs
 have hn' := run_first_s (P := P) (w := w) i.size s
 have hsz : (⟨s.toArray⟩ : ByteArray).size = s.length := by simp [ByteArray.size]
 unfold str at hn' ⊢
 cases A with
 | none =>
  rw [hno rfl]
  simp [Builtin.append_, run_underlying ht, run_underlying hu, sizeOf, typeInfo, hi, Builtin.lenOf, hsz, hg, hn']
 | some ad =>
  simp [Builtin.append_, run_underlying ht, run_underlying hu, sizeOf, typeInfo, hi, Builtin.lenOf, hsz, hg, hn', hst ad rfl]
end
section
variable {P : Program} {Q : Exit → Act → World → Prop} {g : Gh} {N : Nat} {st : St} {K : Act → World → Prop} {d ty T : Nat} {x y : Operand} {pos : String} {aft : Array Edge} {dst : Option Nat} {gd : Option (Nat × Bool)}
variable {z : Value} {by_ : Nat} {agg : Bool}
theorem app_row_s {w : World} (h4 : Mdl g st w) (i : Nat) {v : Value} {e n t u ty : Nat} {inner : List Value} {s : Str} (hi : st.rw[i]? = some ⟨v, e, 1, n, inner⟩)
  (ht : P.underlying t = some (.slice e)) (hu : P.underlying u = some .string) (he : tinf P e = some (z, 1, by_, agg)) (hz : z.cells.size = 1)
  (h63 : n + s.length ≤ 9223372036854775807) (hb : (n + s.length) * by_ ≤ 140737488355328) :
  ∃ v' w', (Builtin.append_ #[t, u] ty #[v, str s]).run P w = .ok v' w' ∧ Mdl g (st.setR i ⟨v', e, 1, n + s.length, inner ++ u8s s⟩) w' := by
 have hok := (h4.rws _ (List.mem_of_getElem? hi)).1
 have hlen : inner.length = n * 1 := hok.1
 have hlen' : (inner ++ u8s s).length = (n + s.length) * 1 := by rw [List.length_append, hlen, u8s_len, Nat.add_mul, Nat.mul_one s.length]
 obtain ⟨A, c, hv, hnc, hcells, hnone⟩ := row_form hok
 simp only at hv hnc hcells hnone
 subst hv
 by_cases hroom : n + s.length ≤ c
 ·rcases hok.2 with ⟨a, hv, h0⟩ | ⟨gb, cap, cur, hv, hg, hc, hm, hs, htk⟩
  ·injection hv with ha hn0 hc0
   subst ha hn0 hc0
   have hm0 : s.length = 0 := by omega
   have hs0 : s = [] := List.eq_nil_of_length_eq_zero hm0
   subst hs0
   refine ⟨_, w, run_app_room_s ht hu he hroom (fun ad _ => rfl) (fun _ => rfl), ?_⟩
   refine h4.setRow i hi (Ext.refl _ _) ?_ (fun k hk => .inl hk)
   show Row.ok w ⟨_, _, _, _, inner ++ []⟩
   rw [List.append_nil]
   exact hok
  ·injection hv with ha hn0 hc0
   subst ha hc0
   have hfit : n * 1 + (u8s s).length ≤ cur.size := by
    rw [u8s_len]
    simp only at hs
    omega
   have hst := run_storeCells_at P gb (n * 1) e (u8s s) 0 cur w hg (by simpa using hfit) (u8s_one s)
   simp only [Nat.add_zero] at hst
   have hadd := add_b gb (n * 1)
   refine ⟨_, w.setRow gb (cur.toList.take (n * 1) ++ u8s s ++ cur.toList.drop (n * 1 + (u8s s).length)).toArray, run_app_room_s ht hu he hroom (fun ad had => by injection had with had; subst had; rw [hadd]; exact hst) (fun h => by cases h), ?_⟩
   refine h4.setRow i hi ⟨rfl, rfl, rfl, by simp [World.setRow], fun k _ hk => setRow_other w gb k _ (fun e => hk (by rw [e]; rfl))⟩ ?_ (fun k hk => .inl hk)
   refine row_new (setRow_heap w gb cur _ e (0, 0) hg) hroom hm ?_ ?_
   ·simp only [List.size_toArray]
    rw [splice_len _ _ _ (by simpa using hfit), Array.length_toList]
    exact hs
   ·simp only at htk
    simp only [htk, ← hlen']
    exact List.take_left
 ·have ho : ∀ w' : World, w'.heap = w.heap → (Builtin.firstCells 1 n (.slice A n c)).run P w' = .ok inner.toArray w' := fun w' hw => by
   refine run_first hlen (fun ad had j u hu => ?_) hnone
   rw [cell_of_heap (w := w) (by rw [hw])]
   exact hcells ad had j u hu
  have hgrow := run_app_grow_s (P := P) (w := w) (ty := ty) (s := s) ht hu he ho (by omega) h63 hb
  refine ⟨_, _, hgrow, ?_⟩
  have hge := grownCap_ge w (n + s.length) c e
  have hcm : grownCap w (n + s.length) c e ≤ maxLen := grownCap_le_maxLen w (n + s.length) c e (by unfold maxLen; omega)
  refine (h4.same (w' := w.drew) ⟨rfl, rfl, rfl, Nat.le_refl _, fun _ _ _ => rfl⟩).setRow i hi (Ext.alloc _ _ _) ?_ (fun k hk => .inr ?_)
  ·refine row_new (heap_alloc_new w.drew _) hge hcm ?_ ?_
   ·simp only [Array.size_append, List.size_toArray, size_zeroCells, hz, hlen, u8s_len]
    omega
   ·simp only [Array.toList_append, List.append_assoc]
    rw [← List.append_assoc, ← hlen']
    exact List.take_left
  ·have := row_blk_new k hk
   subst this
   exact Nat.le_refl _
theorem hv_append_s (i : Nat) {v : Value} {e n t u : Nat} {inner : List Value} {s : Str} (hx : opv st.env x = some v) (hy : opv st.env y = some (str s)) (hi : st.rw[i]? = some ⟨v, e, 1, n, inner⟩)
  (ht : P.underlying t = some (.slice e)) (hu : P.underlying u = some .string) (he : tinf P e = some (z, 1, by_, agg)) (hz : z.cells.size = 1)
  (h63 : n + s.length ≤ 9223372036854775807) (hb : (n + s.length) * by_ ≤ 140737488355328) (hd : Nat.blt d N = true)
  (k : ∀ v', At g N ((st.setR i ⟨v', e, 1, n + s.length, inner ++ u8s s⟩).put d v') K) :
  At g N st (fun a w => Oper.wp P ⟨some d, .call ⟨.builtin .append, #[x, y], #[t, u]⟩, ty, pos, aft, gd⟩ a w K Q) := by
 refine hv_step (fun v : Value => v) (fun v' => st.setR i ⟨v', e, 1, n + s.length, inner ++ u8s s⟩) (fun a w h3 h4 => ?_) hd k
 obtain ⟨v', w', hr, hm⟩ := app_row_s (P := P) (ty := ty) (s := s) h4 i hi ht hu he hz h63 hb
 exact ⟨v', w', by simp [execOp, resolve, invoke, builtin, eval_of h3 hx, eval_of h3 hy, hr], hm, rfl⟩
end
end Go.WK
