/- The data of this program's types, and what the program's own tables say of them. Own work of this seat. -/
import Derived.Test.YteljaomifdnkkaaGreatDoorProg
import Derived.Test.YteljaomifdnkkaaGreatDoorCompareKT
import Derived.KernelRfl
set_option linter.unusedSimpArgs false
set_option linter.unusedVariables false
namespace Go.WK.S
open Go Go.Proofs Go.WK Go.RowKit
set_option linter.unusedVariables false
set_option maxRecDepth 100000
set_option maxHeartbeats 4000000
structure D_api_Sub where
  Code : UInt8
  Value : Str
  deriving DecidableEq
structure D_api_Field where
  Tag : Str
  Ind_0 : UInt8
  Ind_1 : UInt8
  Subs : (List D_api_Sub)
  deriving DecidableEq
structure D_api_Record where
  ID : Int
  Fields : (List D_api_Field)
  deriving DecidableEq
def ty67 : Ty D_api_Sub := Ty.size 24 (Ty.cat (Ty.via (fun x : D_api_Sub => x.Code) Ty.u8) (Ty.via (fun x : D_api_Sub => x.Value) Ty.str))
theorem ty67_bytes : ty67.bytes = 24 := rfl
theorem op67 {F : Nat → Prop} {w : World} {x : D_api_Sub} {cs : List Value} (h : ty67.R F w x cs) : ∃ s : Unit, cs = [.int .u8 (x.Code.toNat : Int), str x.Value] ∧ ∀ f ∈ [(Ty.str.fact x.Value [str x.Value])], Fact.P f F w := by
 obtain ⟨c0, r0, rfl, h0, h1⟩ := h
 obtain ⟨rfl, i0⟩ := h0
 obtain ⟨rfl, i1⟩ := h1
 exact ⟨(), rfl, List.forall_mem_cons.2 ⟨⟨rfl, i1⟩, fun _ hf => by cases hf⟩⟩
theorem ex67 {F : Nat → Prop} {w : World} {x : D_api_Sub} (h : ty67.R F w x [.int .u8 (x.Code.toNat : Int), str x.Value]) : ∀ f ∈ ([(Ty.str.fact x.Value [str x.Value])] : List Fact), Fact.P f F w := by
 obtain ⟨s, hs, hf⟩ := op67 h
 skip
 exact hf
theorem mk67 {F : Nat → Prop} {w : World} {x : D_api_Sub} (h : ∀ f ∈ ([(Ty.str.fact x.Value [str x.Value])] : List Fact), Fact.P f F w) : ty67.R F w x [.int .u8 (x.Code.toNat : Int), str x.Value] := ⟨[.int .u8 (x.Code.toNat : Int)], _, rfl, ⟨rfl, trivial⟩, (h _ List.mem_cons_self)⟩
def ty59 : Ty D_api_Field := Ty.size 48 (Ty.cat (Ty.via (fun x : D_api_Field => x.Tag) Ty.str) (Ty.cat (Ty.via (fun x : D_api_Field => x.Ind_0) Ty.u8) (Ty.cat (Ty.via (fun x : D_api_Field => x.Ind_1) Ty.u8) (Ty.via (fun x : D_api_Field => x.Subs) (Ty.slice ty67)))))
theorem ty59_bytes : ty59.bytes = 48 := rfl
theorem op59 {F : Nat → Prop} {w : World} {x : D_api_Field} {cs : List Value} (h : ty59.R F w x cs) : ∃ s : Value, cs = [str x.Tag, .int .u8 (x.Ind_0.toNat : Int), .int .u8 (x.Ind_1.toNat : Int), s] ∧ ∀ f ∈ [(Ty.str.fact x.Tag [str x.Tag]), ((Ty.slice ty67).fact x.Subs [s])], Fact.P f F w := by
 obtain ⟨c0, r0, rfl, h0, c1, r1, rfl, h1, c2, r2, rfl, h2, h3⟩ := h
 obtain ⟨rfl, i0⟩ := h0
 obtain ⟨rfl, i1⟩ := h1
 obtain ⟨rfl, i2⟩ := h2
 obtain ⟨sSubs, rfl⟩ := one1 (T := (Ty.slice ty67)) rfl h3
 exact ⟨sSubs, rfl, List.forall_mem_cons.2 ⟨⟨rfl, i0⟩, List.forall_mem_cons.2 ⟨h3, fun _ hf => by cases hf⟩⟩⟩
theorem ex59 {F : Nat → Prop} {w : World} {x : D_api_Field} {sSubs : Value} (h : ty59.R F w x [str x.Tag, .int .u8 (x.Ind_0.toNat : Int), .int .u8 (x.Ind_1.toNat : Int), sSubs]) : ∀ f ∈ ([(Ty.str.fact x.Tag [str x.Tag]), ((Ty.slice ty67).fact x.Subs [sSubs])] : List Fact), Fact.P f F w := by
 obtain ⟨s, hs, hf⟩ := op59 h
 simp only [List.cons.injEq, and_true, true_and] at hs
 subst hs
 exact hf
theorem mk59 {F : Nat → Prop} {w : World} {x : D_api_Field} {sSubs : Value} (h : ∀ f ∈ ([(Ty.str.fact x.Tag [str x.Tag]), ((Ty.slice ty67).fact x.Subs [sSubs])] : List Fact), Fact.P f F w) : ty59.R F w x [str x.Tag, .int .u8 (x.Ind_0.toNat : Int), .int .u8 (x.Ind_1.toNat : Int), sSubs] := ⟨[str x.Tag], _, rfl, (h _ List.mem_cons_self), ⟨[.int .u8 (x.Ind_0.toNat : Int)], _, rfl, ⟨rfl, trivial⟩, ⟨[.int .u8 (x.Ind_1.toNat : Int)], _, rfl, ⟨rfl, trivial⟩, (h _ (List.mem_cons_of_mem _ List.mem_cons_self))⟩⟩⟩
def ty24 : Ty D_api_Record := Ty.size 32 (Ty.cat (Ty.via (fun x : D_api_Record => x.ID) (Ty.int .i64)) (Ty.via (fun x : D_api_Record => x.Fields) (Ty.slice ty59)))
theorem op24 {F : Nat → Prop} {w : World} {x : D_api_Record} {cs : List Value} (h : ty24.R F w x cs) : ∃ s : Value, cs = [.int .i64 x.ID, s] ∧ ∀ f ∈ [((Ty.int .i64).fact x.ID [.int .i64 x.ID]), ((Ty.slice ty59).fact x.Fields [s])], Fact.P f F w := by
 obtain ⟨c0, r0, rfl, h0, h1⟩ := h
 obtain ⟨rfl, i0⟩ := h0
 obtain ⟨sFields, rfl⟩ := one1 (T := (Ty.slice ty59)) rfl h1
 exact ⟨sFields, rfl, List.forall_mem_cons.2 ⟨⟨rfl, i0⟩, List.forall_mem_cons.2 ⟨h1, fun _ hf => by cases hf⟩⟩⟩
theorem ex24 {F : Nat → Prop} {w : World} {x : D_api_Record} {sFields : Value} (h : ty24.R F w x [.int .i64 x.ID, sFields]) : ∀ f ∈ ([((Ty.int .i64).fact x.ID [.int .i64 x.ID]), ((Ty.slice ty59).fact x.Fields [sFields])] : List Fact), Fact.P f F w := by
 obtain ⟨s, hs, hf⟩ := op24 h
 simp only [List.cons.injEq, and_true, true_and] at hs
 subst hs
 exact hf
theorem mk24 {F : Nat → Prop} {w : World} {x : D_api_Record} {sFields : Value} (h : ∀ f ∈ ([((Ty.int .i64).fact x.ID [.int .i64 x.ID]), ((Ty.slice ty59).fact x.Fields [sFields])] : List Fact), Fact.P f F w) : ty24.R F w x [.int .i64 x.ID, sFields] := ⟨[.int .i64 x.ID], _, rfl, (h _ List.mem_cons_self), (h _ (List.mem_cons_of_mem _ List.mem_cons_self))⟩
def sp55 (p : D_api_Field → Option Bool) (args : List Value) (fs : List Fact) (post : Value → List Fact → Prop) : Prop :=
  ∃ (a0 : D_api_Field) (r : Bool) (s1518 : Value), p a0 = some r ∧ args = [.agg #[str a0.Tag, .int .u8 (a0.Ind_0.toNat : Int), .int .u8 (a0.Ind_1.toNat : Int), s1518]] ∧ fs = [(ty59.fact a0 [str a0.Tag, .int .u8 (a0.Ind_0.toNat : Int), .int .u8 (a0.Ind_1.toNat : Int), s1518])] ∧ post = fun v fs => v = .bool r ∧ fs = []
def sp101 (p : D_api_Sub → Option Bool) (args : List Value) (fs : List Fact) (post : Value → List Fact → Prop) : Prop :=
  ∃ (a0 : D_api_Sub) (r : Bool), p a0 = some r ∧ args = [.agg #[.int .u8 (a0.Code.toNat : Int), str a0.Value]] ∧ fs = [(ty67.fact a0 [.int .u8 (a0.Code.toNat : Int), str a0.Value])] ∧ post = fun v fs => v = .bool r ∧ fs = []
def sp69 (p : D_api_Field → D_api_Field → Option Bool) (args : List Value) (fs : List Fact) (post : Value → List Fact → Prop) : Prop :=
  ∃ (a0 : D_api_Field) (a1 : D_api_Field) (r : Bool) (s1519 : Value) (s1520 : Value), p a0 a1 = some r ∧ args = [.agg #[str a0.Tag, .int .u8 (a0.Ind_0.toNat : Int), .int .u8 (a0.Ind_1.toNat : Int), s1519], .agg #[str a1.Tag, .int .u8 (a1.Ind_0.toNat : Int), .int .u8 (a1.Ind_1.toNat : Int), s1520]] ∧ fs = [(ty59.fact a0 [str a0.Tag, .int .u8 (a0.Ind_0.toNat : Int), .int .u8 (a0.Ind_1.toNat : Int), s1519]), (ty59.fact a1 [str a1.Tag, .int .u8 (a1.Ind_0.toNat : Int), .int .u8 (a1.Ind_1.toNat : Int), s1520])] ∧ post = fun v fs => v = .bool r ∧ fs = []
theorem und3 : Tryz.prog.underlying 3 = some (.int .i64) := by kernel_rfl
theorem und4 : Tryz.prog.underlying 4 = some (.bool) := by kernel_rfl
theorem und5 : Tryz.prog.underlying 5 = some (.int .u8) := by kernel_rfl
theorem und9 : Tryz.prog.underlying 9 = some (.string) := by kernel_rfl
theorem und21 : Tryz.prog.underlying 21 = some (.int .i32) := by kernel_rfl
theorem und22 : Tryz.prog.underlying 22 = some (.slice 59) := by kernel_rfl
theorem und48 : Tryz.prog.underlying 48 = some (.slice 5) := by kernel_rfl
theorem und56 : Tryz.prog.underlying 56 = some (.array 2 5) := by kernel_rfl
theorem und57 : Tryz.prog.underlying 57 = some (.slice 67) := by kernel_rfl
theorem und117 : Tryz.prog.underlying 117 = some (.interface #[("Error", 122)]) := by kernel_rfl
theorem und140 : Tryz.prog.underlying 140 = some (.slice 3) := by kernel_rfl
theorem ti3 : tinf Tryz.prog 3 = some ((.int .i64 0), 1, 8, false) := by kernel_rfl
theorem ti5 : tinf Tryz.prog 5 = some ((.int .u8 0), 1, 1, false) := by kernel_rfl
theorem ti9 : tinf Tryz.prog 9 = some ((.string ⟨#[]⟩), 1, 16, false) := by kernel_rfl
theorem ti22 : tinf Tryz.prog 22 = some ((.slice none 0 0), 1, 24, false) := by kernel_rfl
theorem ti24 : tinf Tryz.prog 24 = some ((.agg #[(.int .i64 0), (.slice none 0 0)]), 2, 32, true) := by kernel_rfl
theorem ti56 : tinf Tryz.prog 56 = some ((.agg #[(.int .u8 0), (.int .u8 0)]), 2, 2, true) := by kernel_rfl
theorem ti57 : tinf Tryz.prog 57 = some ((.slice none 0 0), 1, 24, false) := by kernel_rfl
theorem ti59 : tinf Tryz.prog 59 = some ((.agg #[(.string ⟨#[]⟩), (.int .u8 0), (.int .u8 0), (.slice none 0 0)]), 4, 48, true) := by kernel_rfl
theorem ti67 : tinf Tryz.prog 67 = some ((.agg #[(.int .u8 0), (.string ⟨#[]⟩)]), 2, 24, true) := by kernel_rfl
theorem ti115 : tinf Tryz.prog 115 = some ((.agg #[(.pointer none), (.slice none 0 0)]), 2, 32, true) := by kernel_rfl
theorem fld24_0 : fldOff Tryz.prog 24 0 = some 0 := by kernel_rfl
theorem fld24_1 : fldOff Tryz.prog 24 1 = some 1 := by kernel_rfl
theorem fld59_0 : fldOff Tryz.prog 59 0 = some 0 := by kernel_rfl
theorem fld59_1 : fldOff Tryz.prog 59 1 = some 1 := by kernel_rfl
theorem fld59_2 : fldOff Tryz.prog 59 2 = some 3 := by kernel_rfl
theorem fld67_0 : fldOff Tryz.prog 67 0 = some 0 := by kernel_rfl
theorem fld67_1 : fldOff Tryz.prog 67 1 = some 1 := by kernel_rfl
theorem eg56 : Tryz.prog.eqGuardType Tryz.prog.depth 56 = false := by kernel_rfl
theorem eqt56 {x0 : Int} {x1 : Int} {y0 : Int} {y1 : Int} : eqv Tryz.prog 10000 56 (.agg [.int .u8 x0, .int .u8 x1].toArray) (.agg [.int .u8 y0, .int .u8 y1].toArray) = some (decide ((x0 : Int) = y0) && decide ((x1 : Int) = y1)) := by kernel_rfl
theorem eg67 : Tryz.prog.eqGuardType Tryz.prog.depth 67 = false := by kernel_rfl
theorem eqt67 {x0 : Int} {x1 : Str} {y0 : Int} {y1 : Str} : eqv Tryz.prog 10000 67 (.agg [.int .u8 x0, str x1].toArray) (.agg [.int .u8 y0, str y1].toArray) = some (decide ((x0 : Int) = y0) && decide (x1 = y1)) := by kernel_rfl
theorem pl24 : stPl Tryz.prog 24 = some [(0, 1), (1, 1)] := by kernel_rfl
theorem pl59 : stPl Tryz.prog 59 = some [(0, 1), (1, 2), (3, 1)] := by kernel_rfl
theorem pl67 : stPl Tryz.prog 67 = some [(0, 1), (1, 1)] := by kernel_rfl
end Go.WK.S
