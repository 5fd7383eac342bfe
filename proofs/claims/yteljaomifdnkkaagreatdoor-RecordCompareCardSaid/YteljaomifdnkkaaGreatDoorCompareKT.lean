/- WK, part t: the library's tables and variables as one fact; numbers to strings and back. No program in sight. -/
import Derived.Test.YteljaomifdnkkaaGreatDoorCompareKS
import Derived.Shelf.Strconv.AtoiAll
import Derived.Shelf.Strconv.Itoa3
import Derived.Lib.ItoaLen
import Derived.LaidLaws
set_option linter.unusedSimpArgs false
set_option linter.unusedVariables false
namespace Go.WK
open Go.RowKit Go.Proofs Go.Shelf Go.Sort
set_option linter.unusedVariables false
set_option linter.unusedSimpArgs false

theorem var?_mv {P : Program} {w w' : World} {name : String} {g : Nat} (hg : P.globalNamed name = some g) (h : w'.heap[g]? = w.heap[g]?) : w'.var? P name = w.var? P name := by
 simp [World.var?, hg, h]
def varF (P : Program) (name : String) (C : Array Value → Prop) : Fact where
  P := fun F w => ∃ g cs, P.globalNamed name = some g ∧ F g ∧ w.var? P name = some cs ∧ C cs
  mv := fun ⟨g, cs, h1, h2, h3, h4⟩ k => ⟨g, cs, h1, (k g h2).1, (var?_mv h1 (k g h2).2).trans h3, h4⟩
def isErr (cs : Array Value) : Prop := ∃ t p, cs = #[.iface t p]
def isPow (cs : Array Value) : Prop := cs = (Lib.pow10Tab.map fun z => Value.int .u64 z).toArray
/-- The tables of unicode/utf8, of numerals, and the two errors of strconv. -/
def tabsF (P : Program) (g3 g4 : Nat) : Fact where
  P := fun F w => (utf8F g3 g4).P F w ∧ (varF P "internal/strconv.uint64pow10" isPow).P F w ∧ (varF P "strconv.ErrSyntax" isErr).P F w ∧ (varF P "strconv.ErrRange" isErr).P F w
  mv := fun ⟨h1, h2, h3, h4⟩ k => ⟨Fact.mv _ h1 k, Fact.mv _ h2 k, Fact.mv _ h3 k, Fact.mv _ h4 k⟩

theorem ext_grow (w : World) (k : Nat) (os : Array Obj) : Ext (fun _ => False) w (grow (w.drewN k) os) :=
 ⟨rfl, rfl, rfl, by simp only [grow, Array.size_append, World.heap_drewN]; omega, fun i hi _ => by simp only [grow, World.heap_drewN]; rw [Array.getElem?_append_left hi]⟩
theorem ext_bytes (w : World) (e : TypeId) (s : ByteArray) : Ext (fun _ => False) w (Lib.bytesWorld w e s) := by
 unfold Lib.bytesWorld
 have h1 : Ext (fun _ => False) w (w.drew.alloc (.cells (Lib.bytesCells w e s) e)) := ⟨rfl, rfl, rfl, by simp [World.alloc], fun k hk _ => heap_alloc_old w.drew _ hk⟩
 exact h1.trans (freeze_ext _ _ _) (fun i hi => .inr (by subst hi; exact Nat.le_refl _))
theorem ext_below {w w' : World} (h : Below w.heap.size w w') : Ext (fun _ => False) w w' := ⟨h.os, h.tape, h.output, h.size, fun k hk _ => h.block k hk⟩

def postItoa (r : Str) (v : Value) (fs : List Fact) : Prop := v = str r ∧ fs = [Ty.str.fact r [str r]]
theorem itoa_spec {P : Program} {ρ : Ren} (L : LaysM.n171 P ρ) {f : FuncId} (hf : ρ.f 171 = f) (en : Enters P f) {a0 : Int} {g3 g4 : Nat} : Spec P f [.int .i64 a0] [(Ty.int .i64).fact a0 [.int .i64 a0], tabsF P g3 g4] (postItoa (Lib.itoa a0)) := by
 subst hf
 refine ⟨en, fun w M0 _ h2 => ?_⟩
 have hb : lo .i64 ≤ a0 ∧ a0 ≤ hi .i64 := (h2 ((Ty.int .i64).fact a0 [.int .i64 a0]) (by simp)).2
 obtain ⟨_, ⟨g, cs, hg, _, hv, hc⟩, _⟩ := h2 (tabsF P g3 g4) (by simp)
 have htab : Lib.TabIs P w "internal/strconv.uint64pow10" .u64 Lib.pow10Tab := by unfold Lib.TabIs; rw [hv, hc]
 simp only [lo, hi] at hb
 refine (Any.strconv_Itoa L a0 hb.1 hb.2 w htab).mono ?_
 rintro e w' ⟨rfl, k, os, rfl⟩
 refine ⟨_, _, rfl, ⟨rfl, rfl⟩, ext_grow w k os, fun x hx => ?_⟩
 simp only [List.mem_singleton] at hx
 subst hx
 have := Lib.itoa_length_le a0 hb.1 hb.2
 exact ⟨rfl, by omega⟩

def atoiM (s : Str) : Option (Int × Bool) := if s.length ≤ 281474976710656 then (match Lib.atoiAll s with | .ok v => some (v, true) | .range => some (Lib.atoiSat s, false) | _ => some (0, false)) else none
def postAtoi (r : Int × Bool) (v : Value) (fs : List Fact) : Prop := ∃ s : Value, v = .tuple #[.int .i64 r.1, s] ∧ fs = [(Ty.int .i64).fact r.1 [.int .i64 r.1], Ty.err.fact r.2 [s]]
theorem atoi_spec {P : Program} {ρ : Ren} (L : LaysC.n172 P ρ) {f : FuncId} (hf : ρ.f 172 = f) (en : Enters P f) {a0 : Str} {r : Int × Bool} (hr : atoiM a0 = some r) {g3 g4 : Nat} : Spec P f [str a0] [Ty.str.fact a0 [str a0], tabsF P g3 g4] (postAtoi r) := by
 subst hf
 refine ⟨en, fun w M0 _ h2 => ?_⟩
 obtain ⟨_, _, ⟨gs, cs, hgs, _, hvs, ts, ps, hcs⟩, ⟨gr, cr, hgr, _, hvr, tr, pr, hcr⟩⟩ := h2 (tabsF P g3 g4) (by simp)
 subst hcs hcr
 unfold atoiM at hr
 split at hr
 ·rename_i hlen
  have hsz : (⟨a0.toArray⟩ : ByteArray).size = a0.length := by simp [ByteArray.size]
  have fin : ∀ {w' : World} {x : Int} {b : Bool} {s : Value} {M0 : Nat → Prop}, Ext (fun _ => False) w w' → (lo .i64 ≤ x ∧ x ≤ hi .i64) → Ty.err.R (fun k => k < w'.heap.size ∧ ¬ M0 k) w' b [s] → Ends w M0 (postAtoi (x, b)) (.returned (.tuple #[.int .i64 x, s])) w' := by
   intro w' x b s M0 hext hb he
   refine ⟨_, _, rfl, ⟨s, rfl, rfl⟩, hext, fun y hy => ?_⟩
   simp only [List.mem_cons, List.not_mem_nil, or_false] at hy
   rcases hy with rfl | rfl
   ·exact ⟨rfl, hb⟩
   ·exact he
  split at hr
  ·rename_i v hv
   have hq := Option.some.inj hr
   subst hq
   have hbd := Lib.atoiAll_bounds hv
   refine (Any.strconv_Atoi_ok L ⟨a0.toArray⟩ (by omega) v hv w).mono ?_
   rintro e w' ⟨rfl, rfl | ⟨t, rfl⟩⟩
   ·exact fin (Ext.refl _ _) hbd (.inl ⟨rfl, rfl⟩)
   ·exact fin (ext_bytes _ _ _) hbd (.inl ⟨rfl, rfl⟩)
  ·rename_i hv
   have hq := Option.some.inj hr
   subst hq
   refine (Any.strconv_Atoi_range L ⟨a0.toArray⟩ (by omega) hv (.iface tr pr) w (by have h0 := World.var?_cell L.m16 hvr 0; simpa using h0) (Or.inr ⟨tr, pr, rfl⟩)).mono ?_
   rintro e w' ⟨N, rfl, _, _, hb⟩
   exact fin (ext_below hb) (by unfold Lib.atoiSat; split <;> decide) (.inr ⟨rfl, _, _, rfl⟩)
  ·rename_i hv1 hv2
   have hq := Option.some.inj hr
   subst hq
   refine (Any.strconv_Atoi_syntax L ⟨a0.toArray⟩ (by omega) (by revert hv1 hv2; cases Lib.atoiAll a0 <;> simp) (.iface ts ps) w (by have h0 := World.var?_cell L.m15 hvs 0; simpa using h0) (Or.inr ⟨ts, ps, rfl⟩)).mono ?_
   rintro e w' ⟨N, rfl, _, _, hb⟩
   exact fin (ext_below hb) (by decide) (.inr ⟨rfl, _, _, rfl⟩)
 ·cases hr
theorem lt_max {P : Program} {st : St} {ty : Nat} {x y : Operand} {pos : String} {aft : Array Edge} {dst : Option Nat} {gd : Option (Nat × Bool)} {kd : IntKind} {a b : Int} {tys : Array TypeId} (hx : opv st.env x = some (.int kd a)) (hy : opv st.env y = some (.int kd b)) : Lt P st ⟨dst, .call ⟨.builtin .max, #[x, y], tys⟩, ty, pos, aft, gd⟩ (.int kd (max a b)) := fun a' w h3 _ => by
 simp [execOp, resolve, invoke, builtin, Builtin.max_, Builtin.max2, eval_of h3 hx, eval_of h3 hy]
 rw [Int.max_def]
 split <;> split <;> omega
end Go.WK
