/- WK, part v: an array of the call's own, cut and appended; bytealg.Compare. No program in sight. -/
import Derived.Test.YteljaomifdnkkaaGreatDoorCompareKT
import Derived.Lib.BytesEntry
set_option linter.unusedSimpArgs false
set_option linter.unusedVariables false
namespace Go.WK
open Go.RowKit Go.Proofs Go.Shelf Go.Sort
set_option linter.unusedVariables false
set_option linter.unusedSimpArgs false
section
variable {P : Program} {g : Gh} {N : Nat} {st : St} {Q : Exit → Act → World → Prop} {K : Act → World → Prop} {T d ty dst' : Nat} {dst : Option Nat} {x y : Operand} {z : Value} {sz by_ : Nat} {agg : Bool} {pos : String} {aft : Array Edge} {gd : Option (Nat × Bool)}

/-- a[l:] of an array that lies at p + o. -/
theorem lt_asl {e n o l : Nat} {kd : IntKind} {i : Int} {lo : Operand} {p : Addr} (hx : opv st.env x = some (.pointer (some (p.add o)))) (hl : opv st.env lo = some (.int kd i)) (ei : i = (l : Int)) (hn : l < n) (ht : P.underlying T = some (.array n e)) (he : tinf P e = some (z, sz, by_, agg)) :
  Lt P st ⟨dst, .slice T x (some lo) none none, ty, pos, aft, gd⟩ (.slice (some (p.add (o + l * sz))) (n - l) (n - l)) := fun a' w h3 _ => by
 subst ei
 have h1 : l ≤ n := by omega
 have h2 : ¬ n = l := by omega
 simp [execOp, eval_of h3 hx, eval_of h3 hl, Instr.sliceAt, Instr.sureAddr, Instr.sliceBounds, Instr.sliceBound, asIntOf, run_underlying ht, h1, h2, run_sizeOf he, add_add']

/-- append(v, a[o:]...), v a row of the call's own, a an array of the call's own. -/
theorem hv_append_b (i j : Nat) {v : Value} {b e n m o t tb : Nat} {inner news cs : List Value} (hx : opv st.env x = some v) (hy : opv st.env y = some (.slice (some ((⟨b, 0, none⟩ : Addr).add o)) m m)) (hi : st.rw[i]? = some ⟨v, e, sz, n, inner⟩) (hj : st.bx[j]? = some ⟨b, cs, tb⟩)
  (hs : cs.drop o = news) (hl : news.length = m * sz)
  (ht : P.underlying t = some (.slice e)) (he : tinf P e = some (z, sz, by_, agg)) (hz : z.cells.size = sz) (hp : Nat.blt 0 sz = true) (h1 : news.all Value.oneCell' = true)
  (h63 : n + m ≤ 9223372036854775807) (hb : (n + m) * by_ ≤ 140737488355328) (hd : Nat.blt d N = true)
  (k : ∀ v', At g N ((st.setR i ⟨v', e, sz, n + m, inner ++ news⟩).put d v') K) :
  At g N st (fun a w => Oper.wp P ⟨some d, .call ⟨.builtin .append, #[x, y], #[t, t]⟩, ty, pos, aft, gd⟩ a w K Q) := by
 refine hv_step (fun v : Value => v) (fun v' => st.setR i ⟨v', e, sz, n + m, inner ++ news⟩) (fun a w h3 h4 => ?_) hd k
 have hok := (h4.bxs _ (List.mem_of_getElem? hj)).1
 have hcl : ∀ j u, news[j]? = some u → w.cell? (((⟨b, 0, none⟩ : Addr).add o).add j) = some u := box_cells (sz := m * sz) hok (by rw [hs, ← hl, List.take_length])
 obtain ⟨v', w', hr, hm⟩ := app_row (P := P) (ty := ty) (m := m) (c' := m) (B := some ((⟨b, 0, none⟩ : Addr).add o)) h4 i hi ht he hz (by simpa using hp) hl (fun w' hw => run_first hl (fun ad had j u hu => by
  obtain rfl := Option.some.inj had
  rw [cell_of_heap (w := w) (by rw [hw])]
  exact hcl j u hu) (fun h => by cases h)) (fun u hu => List.all_eq_true.1 h1 u hu) h63 hb
 exact ⟨v', w', run_append_op h3 hx hy hr, hm, rfl⟩
end

/-! a function with no body, which reads slices -/
structure SpecXF (P : Program) (f : FuncId) (args : List Value) (gs : List Fact) (post : Value → List Fact → Prop) : Prop where
  run : ∃ v fs, post v fs ∧ (∀ F w, ∀ f ∈ fs, Fact.P f F w) ∧ ∀ F w, (∀ f ∈ gs, Fact.P f F w) → (callFunc f args.toArray).run P w = .ok (.value v) w
section
variable {P : Program} {Q : Exit → Act → World → Prop} {g : Gh} {N : Nat} {st : St} {K : Act → World → Prop} {d ty : Nat} {f : Operand} {xs : List Operand} {tys : Array TypeId} {pos : String} {aft : Array Edge} {gd : Option (Nat × Bool)}
theorem hv_callxf {gid : FuncId} {vs : List Value} {gs : List Fact} {post : Value → List Fact → Prop} (is : List Nat) (hc : SpecXF P gid vs gs post)
  (hf : opv st.env f = some (.func (.func gid) #[] #[])) (hx : opvs st.env xs = some vs) (hfs : sel st.fs is = gs) (hd : Nat.blt d N = true)
  (k : ∀ v fs', post v fs' → At g N (({ st with fs := fs' ++ st.fs } : St).put d v) K) :
  At g N st (fun a w => Oper.wp P ⟨some d, .call ⟨.value f, xs.toArray, tys⟩, ty, pos, aft, gd⟩ a w K Q) := by
 obtain ⟨v, fs, hp, hfs', hrun⟩ := hc.run
 refine hv_step (fun _ : Unit => v) (fun _ => { st with fs := fs ++ st.fs }) (fun a w h3 h4 => ⟨(), w, ?_, ?_, rfl⟩) hd (fun _ => k v fs hp)
 ·have he := evals_of h3 hx
  have : (#[] ++ Array.map a.eval xs.toArray) ++ #[] = vs.toArray := by rw [List.map_toArray, he]; simp
  have hr := hrun (foot g st w) w (fun f hf => h4.fcs f (mem_sel (hfs ▸ hf)))
  simp only [execOp, resolve, eval_of h3 hf, Deferred.ofValue, Sem.run_bind, Sem.run_pure, Result.andThen_ok, invoke, this, hr]
 ·exact ⟨h4.m0, h4.ext, h4.bxs, h4.rws, h4.sep, fun f' hf' => (List.mem_append.1 hf').elim (hfs' _ _ f') (h4.fcs f')⟩
end
theorem run_bytes {P : Program} {F : Nat → Prop} {w : World} {a : Str} {v : Value} (h : (Ty.u8.slice.fact a [v]).P F w) : (Extern.Bytes.bytesOf v).run P w = .ok ⟨a.toArray⟩ w := by
 obtain ⟨A, c, hv, h1, h2, h3, h4⟩ := h
 injection hv with hv
 subst hv
 cases A with
 | none =>
  cases a with
  | nil => rfl
  | cons x a =>
   obtain ⟨ad, ec, hA, _⟩ := h4 0 x rfl
   cases hA
 | some ad =>
  have hl : ∀ j x, a[j]? = some x → w.cell? (ad.add j) = some (.int .u8 x.toNat) := fun j x hx => by
   obtain ⟨ad', ec, hA, hR, hc⟩ := h4 j x hx
   injection hA with hA
   subst hA
   obtain ⟨rfl, _⟩ := hR
   have := (hc 0 _ rfl).2
   rw [show j * Ty.u8.sz + 0 = j by show j * 1 + 0 = j; omega] at this
   exact this
  have hb : Lib.bytesOf (a.map fun c => (c.toNat : Int)) = a := by
   unfold Lib.bytesOf
   rw [List.map_map]
   refine (List.map_congr_left fun c _ => ?_).trans (List.map_id a)
   simp
  have e := Lib.run_loadBytesX (P := P) w (a.map fun c => (c.toNat : Int)) ad ByteArray.empty (fun j x hx => by
   rw [List.getElem?_map] at hx
   obtain ⟨c', hc', rfl⟩ := Option.map_eq_some_iff.1 hx
   exact hl j c' hc')
  rw [List.length_map, hb, show ByteArray.empty.data = #[] from rfl] at e
  show (Extern.Bytes.loadBytes ad a.length ByteArray.empty).run P w = _
  simpa using e
theorem ext_compare_s {P : Program} {f : FuncId} {fn : Func} (hf : P.funcs[f]? = some fn) (hname : (fn.name == "runtime.NumGoroutine") = false)
  (hb : fn.body.isNone = true) (hn : Extern.findNext fn = none) (he : Extern.find fn = some Extern.BytealgCompare.compare) {a b : Str} {u v : Value} : SpecXF P f [u, v] [Ty.u8.slice.fact a [u], Ty.u8.slice.fact b [v]] (postInt (Lib.compareBytes a b)) := by
 refine ⟨_, _, ⟨rfl, rfl⟩, fun F w f hf => ?_, fun F w hfs => ?_⟩
 ·simp only [List.mem_singleton] at hf
  subst hf
  have := compareBytes_bd a b
  exact ⟨rfl, by simp only [lo, hi]; omega⟩
 ·rw [run_callFunc_standIn hf hname hb hn he]
  have e1 := run_bytes (P := P) (hfs _ (by simp : Ty.u8.slice.fact a [u] ∈ _))
  have e2 := run_bytes (P := P) (hfs _ (by simp : Ty.u8.slice.fact b [v] ∈ _))
  have : (Extern.BytealgCompare.compare #[u, v]).run P w = .ok (.int .i64 (Lib.compareBytes a b)) w := by
   change Sem.run P (do pure (goInt (Extern.BytealgCompare.cmp (← Extern.Bytes.bytesOf u) (← Extern.Bytes.bytesOf v)))) w = _
   simp only [Sem.run_bind, Sem.run_pure, e1, e2, Result.andThen]
   rw [Lib.cmp_eq]
   rfl
  simp only [List.toArray]
  rw [this]
  simp [Result.andThen_ok]
end Go.WK
