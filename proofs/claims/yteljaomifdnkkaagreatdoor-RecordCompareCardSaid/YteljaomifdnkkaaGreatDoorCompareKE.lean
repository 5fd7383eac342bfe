/- WK, part e: structs and slices that are built, rows of the call's own (append), cuts, bytes to strings. No program in sight. -/
import Derived.Test.YteljaomifdnkkaaGreatDoorCompareKD
import Derived.Laws.Append
import Derived.Laws.BytesString
set_option linter.unusedSimpArgs false
set_option linter.unusedVariables false
namespace Go.WK
open Go.RowKit

def u8 (a : Int) : UInt8 := UInt8.ofNat a.toNat
theorem u8_toNat {a : Int} (h : 0 ≤ a ∧ a ≤ 255) : ((u8 a).toNat : Int) = a := by
 unfold u8
 rw [UInt8.toNat_ofNat']
 omega
def Ty.u8 : Ty UInt8 := Ty.sc (fun c => .int .u8 (c.toNat : Int)) (fun _ => True) 1 (fun _ => rfl)

/-! ### fill -/
def fillL (place : Nat → Option (Nat × Nat)) (cells : List Value) : List (Nat × Value) → Option (List Value)
  | [] => some cells
  | (i, v) :: rest =>
    match place i with
    | none => none
    | some (off, size) =>
      bif Nat.beq v.cells.toList.length size && Nat.ble (off + v.cells.toList.length) cells.length then
        fillL place (cells.take off ++ v.cells.toList ++ cells.drop (off + v.cells.toList.length)) rest
      else none
theorem foldl_set : ∀ (l : List Value) (k off : Nat) (arr : Array Value), off + k + l.length ≤ arr.size →
  (l.zipIdx k).foldl (fun (cs : Array Value) (p : Value × Nat) => cs.setIfInBounds (off + p.2) p.1) arr = (arr.toList.take (off + k) ++ l ++ arr.toList.drop (off + k + l.length)).toArray
 | [], k, off, arr, _ => by simp
 | v :: l, k, off, arr, h => by
  simp only [List.length_cons] at h
  rw [List.zipIdx_cons, List.foldl_cons, foldl_set l (k + 1) off _ (by simp; omega)]
  congr 1
  have hlt : off + k < arr.toList.length := by simp; omega
  simp only [Array.toList_setIfInBounds]
  rw [show off + (k + 1) = off + k + 1 from rfl, List.take_succ_eq_append_getElem (by simpa using hlt)]
  rw [List.take_set_of_le (by omega), List.getElem_set_self, List.drop_set_of_lt (by omega)]
  simp only [List.append_assoc, List.cons_append, List.nil_append, List.length_cons]
  congr 3
  congr 1
  omega
theorem fill_of {place : Nat → Option (Nat × Nat)} : ∀ {parts : List (Nat × Value)} {cells cells' : List Value}, fillL place cells parts = some cells' → Instr.fill place cells.toArray parts = some cells'.toArray
 | [], cells, cells', h => by simp [fillL] at h; subst h; rfl
 | (i, v) :: rest, cells, cells', h => by
  unfold fillL at h
  unfold Instr.fill
  split at h
  ·cases h
  ·rename_i off size hp
   rw [hp]
   simp only
   cases hb : (Nat.beq v.cells.toList.length size && Nat.ble (off + v.cells.toList.length) cells.length)
   ·rw [hb] at h; cases h
   ·rw [hb] at h
    simp only [cond_true] at h
    simp only [Bool.and_eq_true] at hb
    have h1 := Nat.eq_of_beq_eq_true hb.1
    have h2 := Nat.le_of_ble_eq_true hb.2
    simp only [Array.length_toList] at h1 h2
    rw [if_neg (by simp; omega)]
    have h3 := foldl_set v.cells.toList 0 off cells.toArray (by simp; omega)
    simp only [Nat.add_zero] at h3
    have h4 : v.cells.zipIdx.foldl (fun cs (x : Value × Nat) => match x with | (c, j) => cs.setIfInBounds (off + j) c) cells.toArray = (cells.take off ++ v.cells.toList ++ cells.drop (off + v.cells.toList.length)).toArray := by
     rw [← h3, ← Array.foldl_toList, Array.toList_zipIdx]
    rw [h4]
    exact fill_of h

/-- Where a struct's fields lie. -/
def stPl (P : Program) (t : TypeId) : Option (List (Nat × Nat)) :=
  match P.underlying t with
  | some (.struct fs) => fs.toList.mapM fun f => (P.info? f.type).map fun i => (f.offset, i.size)
  | _ => none
theorem run_places {P : Program} {w : World} : ∀ {fs : List Field} {pl : List (Nat × Nat)}, (fs.mapM fun f => (P.info? f.type).map fun i => (f.offset, i.size)) = some pl →
  Sem.run P (fs.mapM fun f => do pure (f.offset, ← sizeOf f.type)) w = .ok pl w
 | [], pl, h => by simp at h; subst h; simp
 | f :: fs, pl, h => by
  rw [List.mapM_cons] at h
  cases hi : P.info? f.type with
  | none => simp [hi] at h
  | some i =>
   simp only [hi, Option.map_some, Option.bind_eq_bind, Option.bind_some] at h
   cases hr : (fs.mapM fun f => (P.info? f.type).map fun i => (f.offset, i.size)) with
   | none => simp [hr] at h
   | some r =>
    simp only [hr, Option.bind_some] at h
    injection h with h
    subst h
    have := run_places (P := P) (w := w) hr
    rw [List.mapM_cons]
    simp only [Sem.run_bind, sizeOf, typeInfo, run_program, Result.andThen_ok, hi, Sem.run_pure]
    simp only [sizeOf, typeInfo] at this
    rw [this]
    rfl

section
variable {P : Program} {st : St} {ty T : Nat} {pos : String} {aft : Array Edge} {dst : Option Nat} {gd : Option (Nat × Bool)}
variable {z : Value} {sz by_ : Nat} {agg : Bool}
def opps (env : List (Nat × Value)) : List (Nat × Operand) → Option (List (Nat × Value))
  | [] => some []
  | (i, x) :: l => match opv env x, opps env l with | some v, some vs => some ((i, v) :: vs) | _, _ => none
theorem evps_of {env : List (Nat × Value)} {a : Act} (h : ∀ i v, lk env i = some v → a.tmps[i]? = some v) : ∀ {l : List (Nat × Operand)} {vs : List (Nat × Value)}, opps env l = some vs → l.map (fun p => (p.1, a.eval p.2)) = vs
 | [], vs, hv => by simp [opps] at hv; subst hv; rfl
 | (i, x) :: l, vs, hv => by
  unfold opps at hv
  split at hv
  ·rename_i v us h1 h2
   injection hv with hv
   subst hv
   simp [eval_of h h1, evps_of h h2]
  ·cases hv

theorem lt_build {parts : List (Nat × Operand)} {vs : List (Nat × Value)} {pl : List (Nat × Nat)} {cs : List Value} (hx : opps st.env parts = some vs) (ht : tinf P T = some (z, sz, by_, agg)) (hpl : stPl P T = some pl)
  (hf : fillL (fun i => pl[i]?) z.cells.toList vs = some cs) : Lt P st ⟨dst, .build T parts.toArray, ty, pos, aft, gd⟩ (.agg cs.toArray) :=
 (fun a w h3 _ => by
  have he := evps_of h3 hx
  have hff := fill_of hf
  unfold stPl at hpl
  split at hpl
  ·rename_i fs hu
   have hp := run_places (P := P) (w := w) hpl
   have hm : Array.map (fun (p : Nat × Operand) => (p.1, a.eval p.2)) parts.toArray = vs.toArray := by rw [List.map_toArray, he]
   simp only [execOp, Instr.build, Sem.run_bind, run_zero ht, Result.andThen_ok, run_underlying hu, Array.mapM_eq_mapM_toList, Sem.run_map, hp]
   have hm' : Array.map (fun (x : Nat × Operand) => match x with | (i, x) => (i, a.eval x)) parts.toArray = vs.toArray := hm
   rw [hm']
   have hff' : Instr.fill (fun i => pl.toArray[i]?) z.cells vs.toArray.toList = some cs.toArray := by simpa using hff
   rw [hff']
   rfl
  ·cases hpl)

/-- The cells of values, written out. -/
def CellsL : List (Nat × Value) → List (Nat × List Value) → Prop
  | [], [] => True
  | (i, v) :: l, (j, c) :: m => i = j ∧ v.cells.toList = c ∧ CellsL l m
  | _, _ => False
def fillC (place : Nat → Option (Nat × Nat)) (cells : List Value) : List (Nat × List Value) → Option (List Value)
  | [] => some cells
  | (i, c) :: rest =>
    match place i with
    | none => none
    | some (off, size) =>
      bif Nat.beq c.length size && Nat.ble (off + c.length) cells.length then
        fillC place (cells.take off ++ c ++ cells.drop (off + c.length)) rest
      else none
theorem fill_cells {place : Nat → Option (Nat × Nat)} : ∀ {vs : List (Nat × Value)} {cs : List (Nat × List Value)} (cells : List Value), CellsL vs cs → fillL place cells vs = fillC place cells cs
 | [], [], _, _ => rfl
 | (i, v) :: l, (j, c) :: m, cells, h => by
  obtain ⟨rfl, rfl, h⟩ := h
  unfold fillL fillC
  cases place i with
  | none => rfl
  | some p =>
   obtain ⟨off, size⟩ := p
   simp only
   rw [fill_cells _ h]
 | [], _ :: _, _, h => h.elim
 | _ :: _, [], _, h => h.elim
theorem lt_buildc {parts : List (Nat × Operand)} {vs : List (Nat × Value)} {pl : List (Nat × Nat)} {cs : List Value} (css : List (Nat × List Value)) (hx : opps st.env parts = some vs) (ht : tinf P T = some (z, sz, by_, agg)) (hpl : stPl P T = some pl)
  (hc : CellsL vs css) (hf : fillC (fun i => pl[i]?) z.cells.toList css = some cs) : Lt P st ⟨dst, .build T parts.toArray, ty, pos, aft, gd⟩ (.agg cs.toArray) :=
 lt_build hx ht hpl (by rw [fill_cells _ hc]; exact hf)
end
end Go.WK
