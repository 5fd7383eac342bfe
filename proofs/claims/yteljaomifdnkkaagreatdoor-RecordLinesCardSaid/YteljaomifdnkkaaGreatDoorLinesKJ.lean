/- WK, part j: contracts with rows that are handed over, new rows with room, nil slices. No program in sight. -/
import Derived.Test.YteljaomifdnkkaaGreatDoorLinesKI
import Derived.Laws.MakeOwn
import Derived.Laws.Cover3
set_option linter.unusedSimpArgs false
set_option linter.unusedVariables false
namespace Go.WK
open Go.RowKit

def rmut (rw : List Row) (k : Nat) : Prop := ∃ r ∈ rw, r.blk = some k
def rsep (rw : List Row) : Prop := (rw.map Row.blk).Pairwise fun a b => a = none ∨ a ≠ b
def EndsG (w : World) (M0 : Nat → Prop) (rw : List Row) (post : Value → List Row → List Fact → Prop) (e : Ending) (w' : World) : Prop :=
  ∃ v rw' fs, e = .returned v ∧ post v rw' fs ∧ Ext (rmut rw) w w' ∧ (∀ r ∈ rw', r.ok w' ∧ ∀ k, r.blk = some k → ¬ M0 k ∧ (rmut rw k ∨ w.heap.size ≤ k)) ∧ rsep rw' ∧
    ∀ f ∈ fs, f.P (fun k => k < w'.heap.size ∧ ¬ M0 k ∧ ¬ rmut rw' k) w'
/-- A contract with rows: those come in to be written; what comes back is the caller's. -/
structure SpecG (P : Program) (f : FuncId) (args : List Value) (rw : List Row) (fs : List Fact) (post : Value → List Row → List Fact → Prop) : Prop where
  en : Enters P f
  ok : ∀ w M0, (∀ k, M0 k → k < w.heap.size) → (∀ r ∈ rw, r.ok w ∧ ∀ k, r.blk = some k → ¬ M0 k) → rsep rw → (∀ f ∈ fs, f.P (fun k => k < w.heap.size ∧ ¬ M0 k ∧ ¬ rmut rw k) w) → Calls P f args.toArray w (EndsG w M0 rw post)

theorem mem_keep {α : Type} {l : List α} {m : List Bool} {x : α} (h : x ∈ keep m l) : x ∈ l := (keep_sub m l).subset h
section
variable {P : Program} {Q : Exit → Act → World → Prop} {g : Gh} {N : Nat} {st : St} {K : Act → World → Prop} {d ty : Nat} {f : Operand} {xs : List Operand} {tys : Array TypeId} {pos : String} {aft : Array Edge} {gd : Option (Nat × Bool)}
/-- 'make([]T, 0, c)'. -/
theorem hv_make0 {t e : Nat} {z : Value} {sz by_ : Nat} {agg : Bool} {x y : Operand} {kl kc : IntKind} {l cI : Int} (c : Nat) (hx : opv st.env x = some (.int kl l)) (hy : opv st.env y = some (.int kc cI)) (hl : l = 0) (hcI : cI = (c : Int)) (ht : P.underlying t = some (.slice e)) (he : tinf P e = some (z, sz, by_, agg)) (hb : by_ * c ≤ 281474976710656) (hm : c ≤ 9223372036854775807) (hd : Nat.blt d N = true)
  (k : ∀ v, At g N ((st.addR ⟨v, e, sz, 0, []⟩).put d v) K) : At g N st (fun a w => Oper.wp P ⟨some d, .makeSlice t x y, ty, pos, aft, gd⟩ a w K Q) := by
 subst hl hcI
 refine hv_step (fun v : Value => v) (fun v => st.addR ⟨v, e, sz, 0, []⟩) (fun a w h3 h4 => ?_) hd k
 obtain ⟨i, hi, hz, hs, hby⟩ := tinf_info he
 have hb' : (i.bytes : Int) * (c : Int) ≤ 281474976710656 := by
  subst hby
  have h : ((i.bytes * c : Nat) : Int) ≤ 281474976710656 := by omega
  rwa [Int.natCast_mul] at h
 have hr := run_make (P := P) w t e i z ht hi hz kl kc 0 c (Int.le_refl _) (by omega) hb' (by omega)
 simp only [Int.toNat_zero, Int.toNat_natCast] at hr
 refine ⟨.slice (some ⟨w.heap.size, 0, none⟩) 0 c, _, ?_, h4.newRow ⟨.slice (some ⟨w.heap.size, 0, none⟩) 0 c, e, sz, 0, []⟩ (madeCells z.cells (c * i.size)) e ?_ row_blk_new, rfl⟩
 ·simp only [execOp, eval_of h3 hx, eval_of h3 hy, Sem.run_bind, hr, Result.andThen_ok, Sem.run_pure]
 ·subst hs
  exact row_new (heap_alloc_new w _) (Nat.zero_le _) hm (size_madeCells _ _) (by simp)
end
end Go.WK
