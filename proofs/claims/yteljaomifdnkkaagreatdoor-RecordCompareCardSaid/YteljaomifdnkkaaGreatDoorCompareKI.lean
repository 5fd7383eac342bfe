/- WK, part i: equality of structs and arrays, division and shifts, cuts of strings and slices, bytes to strings. No program in sight. -/
import Derived.Test.YteljaomifdnkkaaGreatDoorCompareKH
import Derived.Laws.StructEq
import Derived.Laws.IdiomStrings
set_option linter.unusedSimpArgs false
set_option linter.unusedVariables false
namespace Go.WK
open Go.RowKit

/-! ### Equality -/
def isAggD : TypeDesc → Bool
  | .struct _ => true
  | .array _ _ => true
  | _ => false
def partv (P : Program) (t : TypeId) (cs : Array Value) (off : Nat) : Option Value :=
  match P.underlying t with
  | some d => bif isAggD d then (P.info? t).map fun i => .agg (cs.extract off (off + i.size)) else cs[off]?
  | none => none
theorem run_isAgg' {P : Program} {t : TypeId} {d : TypeDesc} (h : P.underlying t = some d) (w : World) : (isAgg t).run P w = .ok (isAggD d) w := by
  cases d <;> simp [isAgg, run_underlying h, isAggD]
theorem run_partv {P : Program} {t : TypeId} {cs : Array Value} {off : Nat} {v : Value} (h : partv P t cs off = some v) (w : World) : (part t cs off).run P w = .ok v w := by
  unfold partv at h
  split at h
  · rename_i d hd
    unfold part
    rw [Sem.run_bind, run_isAgg' hd]
    simp only [Result.andThen_ok]
    cases hb : isAggD d
    · rw [hb] at h
      simp only [cond_false] at h
      simp [h]
    · rw [hb] at h
      simp only [cond_true, Option.map_eq_some_iff] at h
      obtain ⟨i, hi, rfl⟩ := h
      simp [sizeOf, typeInfo, hi]
  · cases h

mutual
def eqFs (eq : TypeId → Value → Value → Option Bool) (P : Program) (xs ys : Array Value) : List Field → Option Bool
  | [] => some true
  | f :: fs =>
    if f.name = "_" then eqFs eq P xs ys fs else
    (partv P f.type xs f.offset).bind fun a => (partv P f.type ys f.offset).bind fun b => (eq f.type a b).bind fun r => match fs with | [] => some r | _ => (eqFs eq P xs ys fs).map (r && ·)
end
def eqEl (eq : TypeId → Value → Value → Option Bool) (P : Program) (e n : Nat) (xs ys : Array Value) : List Nat → Option Bool
  | [] => some true
  | i :: is =>
    (partv P e xs (i * n)).bind fun a => (partv P e ys (i * n)).bind fun b => (eq e a b).bind fun r => match is with | [] => some r | _ => (eqEl eq P e n xs ys is).map (r && ·)
def eqv (P : Program) : Nat → TypeId → Value → Value → Option Bool
  | 0, _, _, _ => none
  | d + 1, t, x, y =>
    match P.underlying t, x, y with
    | some .bool, .bool a, .bool b => some (decide (a = b))
    | some (.int _), .int k a, .int k' b => if k = k' then some (decide (a = b)) else none
    | some .string, .string a, .string b => some (decide (a.data.toList = b.data.toList))
    | some (.struct fs), .agg xs, .agg ys => bif P.stoodInHeld t then none else eqFs (eqv P d) P xs ys fs.toList
    | some (.array len e), .agg xs, .agg ys => (P.info? e).bind fun i => eqEl (eqv P d) P e i.size xs ys (List.range' 0 len)
    | _, _, _ => none
theorem run_eqFs {P : Program} {d : Nat} {xs ys : Array Value} {w : World} (ih : ∀ t x y b, eqv P d t x y = some b → (Op.equalIn d t x y).run P w = .ok b w) :
    ∀ (fs : List Field) (b : Bool), eqFs (eqv P d) P xs ys fs = some b → (Op.eqFields d xs ys fs).run P w = .ok b w
  | [], b, h => by simp [eqFs] at h; subst h; simp [Op.eqFields]
  | f :: fs, b, h => by
    unfold eqFs at h
    unfold Op.eqFields
    by_cases hn : f.name = "_"
    · rw [if_pos hn] at h
      rw [if_neg (by simpa using hn)]
      exact run_eqFs ih fs b h
    · rw [if_neg hn] at h
      rw [if_pos hn]
      obtain ⟨a, ha, h⟩ := obind h
      obtain ⟨c, hc, h⟩ := obind h
      obtain ⟨r, hr, h⟩ := obind h
      simp only [Sem.run_bind, run_partv ha, run_partv hc, ih _ _ _ _ hr, Result.andThen_ok]
      have h' : ∃ b', eqFs (eqv P d) P xs ys fs = some b' ∧ b = (r && b') := by
        cases fs with
        | nil => simp at h; subst h; exact ⟨true, rfl, by simp⟩
        | cons f' fs' =>
          simp only [Option.map_eq_some_iff] at h
          obtain ⟨b', h1, h2⟩ := h
          exact ⟨b', h1, h2.symm⟩
      obtain ⟨b', h1, rfl⟩ := h'
      cases r
      · simp
      · simp [run_eqFs ih fs b' h1]
theorem run_eqEl {P : Program} {d e n : Nat} {xs ys : Array Value} {w : World} (ih : ∀ t x y b, eqv P d t x y = some b → (Op.equalIn d t x y).run P w = .ok b w) :
    ∀ (is : List Nat) (b : Bool), eqEl (eqv P d) P e n xs ys is = some b → ∀ (r0 : Option Bool × Unit), r0.1 = none →
      ∃ s : Option Bool × Unit, (forIn is r0 fun i (_ : Option Bool × Unit) => (do
        let a ← part e xs (i * n)
        let c ← part e ys (i * n)
        let r ← Op.equalIn d e a c
        if (!r) = true then pure (ForInStep.done (some false, ())) else pure (ForInStep.yield (none, ())) : Sem (ForInStep (Option Bool × Unit)))).run P w = .ok s w ∧ s.1 = (if b then none else some false)
  | [], b, h, r0, h0 => by simp [eqEl] at h; subst h; exact ⟨r0, by simp, by simpa using h0⟩
  | i :: is, b, h, r0, h0 => by
    unfold eqEl at h
    obtain ⟨a, ha, h⟩ := obind h
    obtain ⟨c, hc, h⟩ := obind h
    obtain ⟨r, hr, h⟩ := obind h
    simp only [List.forIn_cons, Sem.run_bind, run_partv ha, run_partv hc, ih _ _ _ _ hr, Result.andThen_ok]
    have h' : ∃ b', eqEl (eqv P d) P e n xs ys is = some b' ∧ b = (r && b') := by
      cases is with
      | nil => simp at h; subst h; exact ⟨true, rfl, by simp⟩
      | cons f' fs' =>
        simp only [Option.map_eq_some_iff] at h
        obtain ⟨b', h1, h2⟩ := h
        exact ⟨b', h1, h2.symm⟩
    obtain ⟨b', h1, rfl⟩ := h'
    cases r
    · exact ⟨(some false, ()), by simp, by simp⟩
    · obtain ⟨s, hs, hs'⟩ := run_eqEl ih is b' h1 (none, ()) rfl
      refine ⟨s, ?_, by simpa using hs'⟩
      simp only [Bool.not_true, Bool.false_eq_true, if_false, Sem.run_pure, Result.andThen_ok]
      simpa using hs
theorem run_eqv {P : Program} {w : World} : ∀ (d : Nat) (t : TypeId) (x y : Value) (b : Bool), eqv P d t x y = some b → (Op.equalIn d t x y).run P w = .ok b w
  | 0, _, _, _, _, h => by cases h
  | d + 1, t, x, y, b, h => by
    unfold eqv at h
    split at h
    · rename_i hu
      injection h with h
      subst h
      unfold Op.equalIn
      simp [run_underlying hu, Bool.beq_eq_decide_eq]
    · rename_i hu
      split at h
      · rename_i hk
        injection h with h
        subst h hk
        have hbd : ∀ a b : Int, (a == b) = decide (a = b) := fun a b => by rw [Bool.eq_iff_iff]; simp
        simp [Op.equalIn, run_underlying hu, hbd]
      · cases h
    · rename_i hu
      injection h with h
      subst h
      rename_i a c
      have : (a == c) = decide (a.data.toList = c.data.toList) := by
        rw [beq_toListBytes, ByteArray.toList_eq, ByteArray.toList_eq, Bool.eq_iff_iff]
        simp
      simp [Op.equalIn, run_underlying hu, this]
    · rename_i fs xs ys hu
      cases hs : P.stoodInHeld t
      · rw [hs] at h
        simp only [cond_false] at h
        have hf : P.fieldsOf t = fs := by simp [Program.fieldsOf, hu]
        rw [run_equalIn_struct w d t xs ys (by rw [hf]; exact hu) hs, hf]
        exact run_eqFs (fun t x y b => run_eqv d t x y b) fs.toList b h
      · rw [hs] at h
        cases h
    · rename_i len e xs ys hu
      obtain ⟨i, hi, h⟩ := obind h
      obtain ⟨s, hs, hs'⟩ := run_eqEl (w := w) (fun t x y b => run_eqv d t x y b) _ b h (none, ()) rfl
      simp only [Op.equalIn, Sem.run_bind, run_underlying hu, Result.andThen_ok, sizeOf, typeInfo, run_program, hi, Sem.run_pure]
      rw [Std.Legacy.Range.forIn_eq_forIn_range']
      have hsz : (⟨0, len, 1, by decide⟩ : Std.Legacy.Range).size = len := by simp [Std.Legacy.Range.size]
      simp only [hsz]
      rw [hs]
      simp only [Result.andThen_ok, hs']
      cases b <;> simp
    · cases h

section
variable {P : Program} {st : St} {ty yt T : Nat} {x y : Operand} {pos : String} {aft : Array Edge} {dst : Option Nat} {gd : Option (Nat × Bool)}
theorem run_guard_agg {P : Program} {w : World} {op : BinOp} {T : Nat} {x y : Operand} {as bs : Array Value} (hg : P.eqGuardType P.depth T = false) : (eqGuard op T x y (.agg as) (.agg bs)).run P w = .ok () w := by
  cases op <;> simp [eqGuard, hg]
theorem lt_steq {as bs : List Value} {r : Bool} (hx : opv st.env x = some (.agg as.toArray)) (hy : opv st.env y = some (.agg bs.toArray)) (hg : P.eqGuardType P.depth T = false) (h : eqv P 10000 T (.agg as.toArray) (.agg bs.toArray) = some r) :
    Lt P st ⟨dst, .binOp .eql T x y yt, ty, pos, aft, gd⟩ (.bool r) := fun a' w h3 _ => by
  simp [execOp, eval_of h3 hx, eval_of h3 hy, run_guard_agg hg, binOp, Op.equal, Op.maxDepth, run_eqv _ _ _ _ _ h]
theorem lt_stne {as bs : List Value} {r : Bool} (hx : opv st.env x = some (.agg as.toArray)) (hy : opv st.env y = some (.agg bs.toArray)) (hg : P.eqGuardType P.depth T = false) (h : eqv P 10000 T (.agg as.toArray) (.agg bs.toArray) = some r) :
    Lt P st ⟨dst, .binOp .neq T x y yt, ty, pos, aft, gd⟩ (.bool (!r)) := fun a' w h3 _ => by
  simp [execOp, eval_of h3 hx, eval_of h3 hy, run_guard_agg hg, binOp, Op.equal, Op.maxDepth, run_eqv _ _ _ _ _ h]
theorem lt_beq {a b : Bool} (hx : opv st.env x = some (.bool a)) (hy : opv st.env y = some (.bool b)) (hu : P.underlying T = some .bool) : Lt P st ⟨dst, .binOp .eql T x y yt, ty, pos, aft, gd⟩ (.bool (a == b)) :=
  lt_bin hx hy rfl (by simp) (fun w => by
    have h := run_equalIn_bool' (P := P) w 9999 T a b hu
    show Sem.run P (do pure (Value.bool (← Op.equalIn (9999 + 1) T (.bool a) (.bool b)))) w = _
    simp only [Sem.run_bind, h, Result.andThen_ok, Sem.run_pure])
theorem lt_quo {kd : IntKind} {a b : Int} (hx : opv st.env x = some (.int kd a)) (hy : opv st.env y = some (.int kd b)) (hb : b ≠ 0) : Lt P st ⟨dst, .binOp .quo T x y yt, ty, pos, aft, gd⟩ (.int kd (kd.wrap (a.tdiv b))) :=
  lt_bin hx hy rfl (by simp) (fun w => by simp [binOp, Op.intDiv, hb])
theorem lt_shr {kd kd' : IntKind} {a b : Int} (hx : opv st.env x = some (.int kd a)) (hy : opv st.env y = some (.int kd' b)) (hb : 0 ≤ b) : Lt P st ⟨dst, .binOp .shr T x y yt, ty, pos, aft, gd⟩ (.int kd (a.fdiv (2 ^ (min b.toNat kd.bits)))) :=
  lt_bin hx hy rfl (by simp) (fun w => by have : ¬ b < 0 := by omega
                                          simp [binOp, Op.shift, this])
theorem lt_shl {kd kd' : IntKind} {a b : Int} (hx : opv st.env x = some (.int kd a)) (hy : opv st.env y = some (.int kd' b)) (hb : 0 ≤ b) : Lt P st ⟨dst, .binOp .shl T x y yt, ty, pos, aft, gd⟩ (.int kd (kd.wrap (a * 2 ^ (min b.toNat kd.bits)))) :=
  lt_bin hx hy rfl (by simp) (fun w => by have : ¬ b < 0 := by omega
                                          simp [binOp, Op.shift, this])

/-! ### Cuts -/
theorem lt_scut_lh (l h : Nat) {a : Str} {k k' : IntKind} {i j : Int} {lo hi : Operand} (hx : opv st.env x = some (str a)) (hl : opv st.env lo = some (.int k i)) (hh : opv st.env hi = some (.int k' j)) (ei : i = (l : Int)) (ej : j = (h : Int)) (ht : P.underlying T = some .string) (h1 : l ≤ h) (h2 : h ≤ a.length) :
    Lt P st ⟨dst, .slice T x (some lo) (some hi) none, ty, pos, aft, gd⟩ (str ((a.take h).drop l)) := fun a' w h3 _ => by
  subst ei ej
  have h4 : ¬ (a.length < h) := by omega
  have h5 : ¬ (h < l) := by omega
  simp [execOp, eval_of h3 hx, eval_of h3 hl, eval_of h3 hh, Instr.sliceAt, Instr.slice, Instr.sliceBounds, Instr.sliceBound, asIntOf, run_underlying ht, str, size_str, h1, h2, cut_str, h4, h5]
theorem lt_scut_l (l : Nat) {a : Str} {k : IntKind} {i : Int} {lo : Operand} (hx : opv st.env x = some (str a)) (hl : opv st.env lo = some (.int k i)) (ei : i = (l : Int)) (ht : P.underlying T = some .string) (h1 : l ≤ a.length) :
    Lt P st ⟨dst, .slice T x (some lo) none none, ty, pos, aft, gd⟩ (str (a.drop l)) := fun a' w h3 _ => by
  subst ei
  have := cut_str a l a.length
  rw [List.take_length] at this
  simp [execOp, eval_of h3 hx, eval_of h3 hl, Instr.sliceAt, Instr.slice, Instr.sliceBounds, Instr.sliceBound, asIntOf, run_underlying ht, str, size_str, h1, this]
theorem lt_scut_h (h : Nat) {a : Str} {k : IntKind} {j : Int} {hi : Operand} (hx : opv st.env x = some (str a)) (hh : opv st.env hi = some (.int k j)) (ej : j = (h : Int)) (ht : P.underlying T = some .string) (h2 : h ≤ a.length) :
    Lt P st ⟨dst, .slice T x none (some hi) none, ty, pos, aft, gd⟩ (str (a.take h)) := fun a' w h3 _ => by
  subst ej
  have := cut_str a 0 h
  rw [List.drop_zero] at this
  simp [execOp, eval_of h3 hx, eval_of h3 hh, Instr.sliceAt, Instr.slice, Instr.sliceBounds, Instr.sliceBound, asIntOf, run_underlying ht, str, size_str, h2, this]
end

section
variable {P : Program} {g : Gh} {N : Nat} {st : St} {ty T : Nat} {x y : Operand} {pos : String} {aft : Array Edge} {dst : Option Nat} {gd : Option (Nat × Bool)}
variable {z : Value} {sz by_ : Nat} {agg : Bool}
theorem lt_abuild {parts : List (Nat × Operand)} {vs : List (Nat × Value)} {cs : List Value} {m e sz' by' : Nat} {z' : Value} {agg' : Bool} (hx : opps st.env parts = some vs) (ht : tinf P T = some (z, sz, by_, agg)) (hu : P.underlying T = some (.array m e)) (he : tinf P e = some (z', sz', by', agg'))
    (hf : fillL (fun i => some (i * sz', sz')) z.cells.toList vs = some cs) : Lt P st ⟨dst, .build T parts.toArray, ty, pos, aft, gd⟩ (.agg cs.toArray) :=
  (fun a w h3 _ => by
    have he' := evps_of h3 hx
    have hff := fill_of hf
    have hm' : Array.map (fun (x : Nat × Operand) => match x with | (i, x) => (i, a.eval x)) parts.toArray = vs.toArray := by
      have hm : Array.map (fun (p : Nat × Operand) => (p.1, a.eval p.2)) parts.toArray = vs.toArray := by rw [List.map_toArray, he']
      exact hm
    simp only [execOp, Instr.build, Sem.run_bind, run_zero ht, Result.andThen_ok, run_underlying hu, run_sizeOf he]
    rw [hm']
    have hff' : Instr.fill (fun i => some (i * sz', sz')) z.cells vs.toArray.toList = some cs.toArray := by simpa using hff
    rw [hff']
    simp)
/-- 'string(b)', b a row of the call's own, of which each byte is known. -/
theorem lt_bstr (i : Nat) {v : Value} {e n t t' : Nat} (l : List UInt8) (hx : opv st.env x = some v) (hi : st.rw[i]? = some ⟨v, e, 1, n, l.map fun c => .int .u8 (c.toNat : Int)⟩) (hl : n = l.length) (ht : P.underlying t = some (.slice e)) (he : P.underlying e = some (.int .u8)) (ht' : P.underlying t' = some .string)
    {K : Act → World → Prop} {d : Nat} {Q : Exit → Act → World → Prop} (hd : Nat.blt d N = true) (k : At g N (st.put d (str l)) K) : At g N st (fun a w => Oper.wp P ⟨some d, .convert t t' x, ty, pos, aft, gd⟩ a w K Q) := by
  intro a w h1 h2 h3 h4
  have hok := (h4.rws _ (List.mem_of_getElem? hi)).1
  obtain ⟨A, c, hv, hnc, hcells, hnone⟩ := row_form hok
  simp only at hv hnc hcells hnone
  subst hl hv
  have hrun : (execOp a.eval ⟨some d, .convert t t' x, ty, pos, aft, gd⟩).run P w = .ok (.value (str l)) w := by
    cases A with
    | none =>
      have := hnone rfl
      have : l = [] := List.eq_nil_of_length_eq_zero this
      subst this
      simp only [execOp, eval_of h3 hx]
      simp [convert, run_underlying ht, run_underlying he, run_underlying ht', Conv.bytesToString, str]
      rfl
    | some ad =>
      have hr := run_convert_bytes_back (P := P) w t t' e ad c l ht he ht' (fun j hj => by
        have := hcells ad rfl j (.int .u8 (l[j].toNat : Int)) (by rw [List.getElem?_map, List.getElem?_eq_getElem hj]; rfl)
        exact this)
      simp only [execOp, eval_of h3 hx, Sem.run_bind, hr, Result.andThen_ok, Sem.run_pure, str]
  unfold Oper.wp
  rw [hrun]
  exact k _ w (by simpa [Act.put] using h1) (by simpa [Act.put] using h2) (lk_put h2 (by simpa using hd) h3) h4.put
end
end Go.WK
