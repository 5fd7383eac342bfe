/- WK, part m: what a call's arguments read as, as data. No program in sight. -/
import Derived.Test.YteljaomifdnkkaaGreatDoorLinesKL
import Derived.ChangeArms
import Derived.OpenShut
import Derived.Handed
import Derived.SizedLaws
import Derived.Carry
import Derived.ProofKit
set_option linter.unusedSimpArgs false
set_option linter.unusedVariables false
namespace Go.WK
open Go.RowKit

abbrev inW (W : World) : Nat → Prop := fun k => k < W.heap.size

/-- Whatever reads at the type T has these cells: 'C'. -/
structure Rdr (P : Program) (T n : Nat) (C : World → List Value → Prop) : Prop where
  sz : P.cellsOf T = n
  rd : ∀ {H : Type} (enc : TypeId × Value → H) (W : World) (fuel : Nat) (cs : List Value) (d : DataW H) (ps : List MemPlace),
    DataW.trod enc P W 0 (fun _ => true) true fuel T cs = some (d, ps) → (∀ m ∈ d.weights P T, m ≤ reachBytes) → C W cs

theorem Rdr.imp {P : Program} {T n : Nat} {C D : World → List Value → Prop} (h : Rdr P T n C) (k : ∀ W cs, C W cs → D W cs) : Rdr P T n D :=
 ⟨h.sz, fun enc W fuel cs d ps h1 h2 => k W cs (h.rd enc W fuel cs d ps h1 h2)⟩

/-- These cells are a datum. -/
def Is {α : Type} (T : Ty α) (W : World) (cs : List Value) : Prop := ∃ x, T.R (inW W) W x cs

theorem rdr_str {P : Program} {T : Nat} (hu : P.underlying T = some .string) (hs : P.cellsOf T = 1) : Rdr P T 1 (Is Ty.str) := by
 refine ⟨hs, fun enc W fuel cs d ps h hw => ?_⟩
 obtain ⟨s, rfl, hx, hm⟩ := DataW.trod_string hu h
 refine ⟨s.data.toList, ?_, ?_⟩
 ·simp [str]
 ·have : s.data.toList.length = s.size := by rw [Array.length_toList]; rfl
  have : maxLen ≤ 9223372036854775807 := by decide
  omega
inductive Flds (P : Program) : Nat → List Field → List (World → List Value → Prop) → Nat → Prop
  | nil {o : Nat} : Flds P o [] [] o
  | cons {o n m : Nat} {f : Field} {fs : List Field} {C : World → List Value → Prop} {l : List (World → List Value → Prop)} (ho : f.offset = o) (hr : Rdr P f.type n C) (ht : Flds P (o + n) fs l m) : Flds P o (f :: fs) (C :: l) m

theorem cell_lt {w : World} {a : Addr} {u : Value} (h : w.cell? a = some u) : a.block < w.heap.size := by
 unfold World.cell? at h
 split at h
 ·rename_i hh; exact (Array.getElem?_eq_some_iff.1 hh).1
 ·cases h

theorem below_of_ext {w w' : World} (h : Ext (fun _ => False) w w') : Below w.heap.size w w' := ⟨h.os, h.tape, h.output, h.size, fun k hk => h.block k hk (fun f => f)⟩
/-- What a contract says, of a call on which nobody else looks. -/
theorem Spec.calls {P : Program} {f : FuncId} {args : List Value} {fs : List Fact} {post : Value → List Fact → Prop} (h : Spec P f args fs post) (w : World) (hf : ∀ x ∈ fs, x.P (inW w) w) :
  Calls P f args.toArray w fun e w' => ∃ v fs', e = .returned v ∧ post v fs' ∧ Below w.heap.size w w' :=
 (h.ok w (fun _ => False) (fun _ hk => hk.elim) (fun x hx => Fact.mv x (hf x hx) fun k hk => ⟨⟨hk, fun f => f⟩, rfl⟩)).mono fun e w' ⟨v, fs', h1, h2, h3, _⟩ => ⟨v, fs', h1, h2, below_of_ext h3⟩
section
open Go.WideShapes
variable {P : Program} {T n : Nat} {H : Type} {enc : TypeId × Value → H} {W : World} {d : DataW H} {ps : List MemPlace} {v : Value} {b : Nat}
theorem arg_str (hu : P.underlying T = some .string) (hs : P.cellsOf T = 1) (hv : Value.okWide P W .any b T v) (h : DataW.Trod enc P W 0 (fun _ => true) true T v d ps) (hw : ∀ m ∈ d.weights P T, m ≤ reachBytes) :
  ∃ s, v = str s ∧ Ty.str.R (inW W) W s [str s] := by
 obtain ⟨s0, rfl⟩ := okWide_string hu hv
 obtain ⟨fuel, h⟩ := h
 obtain ⟨s, h1, h2⟩ := (rdr_str hu hs).rd enc W fuel _ d ps h hw
 simp only [Value.cells, List.cons.injEq, and_true] at h1
 exact ⟨s, h1, rfl, h2⟩
theorem arg_lt (h : DataW.Trod enc P W 0 (fun _ => true) true T v d ps) : ∀ x ∈ ps, x.block < W.heap.size := by
 obtain ⟨m, hm⟩ := h
 exact DataW.trod_lt m _ _ _ hm
theorem wt {ts : List Nat} {ds : List (DataW H)} (h : (DataW.weightsEach P ts ds).all (· ≤ reachBytes) = true) (j : Nat) (ht : ts[j]? = some T) (hd : ds[j]? = some d) : ∀ m ∈ d.weights P T, m ≤ reachBytes := by
 intro m hm
 have := List.all_eq_true.1 h _ (DataW.weights_mem_each ht hd m hm)
 simpa using this
end
end Go.WK
