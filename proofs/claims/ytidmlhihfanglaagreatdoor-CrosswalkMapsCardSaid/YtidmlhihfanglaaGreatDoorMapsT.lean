/- The data of this program's types, and what the program's own tables say of them. Own work of this seat. -/
import Derived.Test.YtidmlhihfanglaaGreatDoorProg
import Derived.Test.YtidmlhihfanglaaGreatDoorMapsKO
import Derived.KernelRfl
set_option linter.unusedSimpArgs false
set_option linter.unusedVariables false
namespace Go.WK.S
open Go Go.Proofs Go.WK Go.RowKit
set_option linter.unusedVariables false
set_option maxRecDepth 100000
set_option maxHeartbeats 4000000
structure D_crosswalk_Pair where
  From : UInt8
  To : UInt8
  deriving DecidableEq
structure D_crosswalk_Entry where
  From : Str
  To : Str
  Codes : (List D_crosswalk_Pair)
  deriving DecidableEq
structure D_api_Sub where
  Code : UInt8
  Value : Str
  deriving DecidableEq
structure D_api_Field where
  Tag : Str
  Ind_0 : UInt8
  Ind_1 : UInt8
  Subs : (List D_api_Sub)
  deriving DecidableEq
structure D_api_Record where
  ID : Int
  Fields : (List D_api_Field)
  deriving DecidableEq
structure D_ref16_Pair where
  From : UInt8
  To : UInt8
  deriving DecidableEq
structure D_ref16_Entry where
  From : Str
  To : Str
  Codes : (List D_ref16_Pair)
  deriving DecidableEq
def ty82 : Ty D_crosswalk_Pair := Ty.size 2 (Ty.cat (Ty.via (fun x : D_crosswalk_Pair => x.From) Ty.u8) (Ty.via (fun x : D_crosswalk_Pair => x.To) Ty.u8))
theorem ty82_bytes : ty82.bytes = 2 := rfl
theorem op82 {F : Nat → Prop} {w : World} {x : D_crosswalk_Pair} {cs : List Value} (h : ty82.R F w x cs) : ∃ s : Unit, cs = [.int .u8 (x.From.toNat : Int), .int .u8 (x.To.toNat : Int)] ∧ ∀ f ∈ ([] : List Fact), Fact.P f F w := by
 obtain ⟨c0, r0, rfl, h0, h1⟩ := h
 obtain ⟨rfl, i0⟩ := h0
 obtain ⟨rfl, i1⟩ := h1
 exact ⟨(), rfl, fun _ hf => by cases hf⟩
theorem mk82 {F : Nat → Prop} {w : World} {x : D_crosswalk_Pair} (h : ∀ f ∈ ([] : List Fact), Fact.P f F w) : ty82.R F w x [.int .u8 (x.From.toNat : Int), .int .u8 (x.To.toNat : Int)] := ⟨[.int .u8 (x.From.toNat : Int)], _, rfl, ⟨rfl, trivial⟩, ⟨rfl, trivial⟩⟩
def ty76 : Ty D_crosswalk_Entry := Ty.size 56 (Ty.cat (Ty.via (fun x : D_crosswalk_Entry => x.From) Ty.str) (Ty.cat (Ty.via (fun x : D_crosswalk_Entry => x.To) Ty.str) (Ty.via (fun x : D_crosswalk_Entry => x.Codes) (Ty.slice ty82))))
theorem ty76_bytes : ty76.bytes = 56 := rfl
theorem op76 {F : Nat → Prop} {w : World} {x : D_crosswalk_Entry} {cs : List Value} (h : ty76.R F w x cs) : ∃ s : Value, cs = [str x.From, str x.To, s] ∧ ∀ f ∈ [(Ty.str.fact x.From [str x.From]), (Ty.str.fact x.To [str x.To]), ((Ty.slice ty82).fact x.Codes [s])], Fact.P f F w := by
 obtain ⟨c0, r0, rfl, h0, c1, r1, rfl, h1, h2⟩ := h
 obtain ⟨rfl, i0⟩ := h0
 obtain ⟨rfl, i1⟩ := h1
 obtain ⟨sCodes, rfl⟩ := one1 (T := (Ty.slice ty82)) rfl h2
 exact ⟨sCodes, rfl, List.forall_mem_cons.2 ⟨⟨rfl, i0⟩, List.forall_mem_cons.2 ⟨⟨rfl, i1⟩, List.forall_mem_cons.2 ⟨h2, fun _ hf => by cases hf⟩⟩⟩⟩
theorem ex76 {F : Nat → Prop} {w : World} {x : D_crosswalk_Entry} {sCodes : Value} (h : ty76.R F w x [str x.From, str x.To, sCodes]) : ∀ f ∈ ([(Ty.str.fact x.From [str x.From]), (Ty.str.fact x.To [str x.To]), ((Ty.slice ty82).fact x.Codes [sCodes])] : List Fact), Fact.P f F w := by
 obtain ⟨s, hs, hf⟩ := op76 h
 simp only [List.cons.injEq, and_true, true_and] at hs
 subst hs
 exact hf
theorem mk76 {F : Nat → Prop} {w : World} {x : D_crosswalk_Entry} {sCodes : Value} (h : ∀ f ∈ ([(Ty.str.fact x.From [str x.From]), (Ty.str.fact x.To [str x.To]), ((Ty.slice ty82).fact x.Codes [sCodes])] : List Fact), Fact.P f F w) : ty76.R F w x [str x.From, str x.To, sCodes] := ⟨[str x.From], _, rfl, (h _ List.mem_cons_self), ⟨[str x.To], _, rfl, (h _ (List.mem_cons_of_mem _ List.mem_cons_self)), (h _ (List.mem_cons_of_mem _ (List.mem_cons_of_mem _ List.mem_cons_self)))⟩⟩
def ty66 : Ty D_api_Sub := Ty.size 24 (Ty.cat (Ty.via (fun x : D_api_Sub => x.Code) Ty.u8) (Ty.via (fun x : D_api_Sub => x.Value) Ty.str))
theorem ty66_bytes : ty66.bytes = 24 := rfl
theorem op66 {F : Nat → Prop} {w : World} {x : D_api_Sub} {cs : List Value} (h : ty66.R F w x cs) : ∃ s : Unit, cs = [.int .u8 (x.Code.toNat : Int), str x.Value] ∧ ∀ f ∈ [(Ty.str.fact x.Value [str x.Value])], Fact.P f F w := by
 obtain ⟨c0, r0, rfl, h0, h1⟩ := h
 obtain ⟨rfl, i0⟩ := h0
 obtain ⟨rfl, i1⟩ := h1
 exact ⟨(), rfl, List.forall_mem_cons.2 ⟨⟨rfl, i1⟩, fun _ hf => by cases hf⟩⟩
theorem ex66 {F : Nat → Prop} {w : World} {x : D_api_Sub} (h : ty66.R F w x [.int .u8 (x.Code.toNat : Int), str x.Value]) : ∀ f ∈ ([(Ty.str.fact x.Value [str x.Value])] : List Fact), Fact.P f F w := by
 obtain ⟨s, hs, hf⟩ := op66 h
 skip
 exact hf
theorem mk66 {F : Nat → Prop} {w : World} {x : D_api_Sub} (h : ∀ f ∈ ([(Ty.str.fact x.Value [str x.Value])] : List Fact), Fact.P f F w) : ty66.R F w x [.int .u8 (x.Code.toNat : Int), str x.Value] := ⟨[.int .u8 (x.Code.toNat : Int)], _, rfl, ⟨rfl, trivial⟩, (h _ List.mem_cons_self)⟩
def ty69 : Ty D_api_Field := Ty.size 48 (Ty.cat (Ty.via (fun x : D_api_Field => x.Tag) Ty.str) (Ty.cat (Ty.via (fun x : D_api_Field => x.Ind_0) Ty.u8) (Ty.cat (Ty.via (fun x : D_api_Field => x.Ind_1) Ty.u8) (Ty.via (fun x : D_api_Field => x.Subs) (Ty.slice ty66)))))
theorem ty69_bytes : ty69.bytes = 48 := rfl
theorem op69 {F : Nat → Prop} {w : World} {x : D_api_Field} {cs : List Value} (h : ty69.R F w x cs) : ∃ s : Value, cs = [str x.Tag, .int .u8 (x.Ind_0.toNat : Int), .int .u8 (x.Ind_1.toNat : Int), s] ∧ ∀ f ∈ [(Ty.str.fact x.Tag [str x.Tag]), ((Ty.slice ty66).fact x.Subs [s])], Fact.P f F w := by
 obtain ⟨c0, r0, rfl, h0, c1, r1, rfl, h1, c2, r2, rfl, h2, h3⟩ := h
 obtain ⟨rfl, i0⟩ := h0
 obtain ⟨rfl, i1⟩ := h1
 obtain ⟨rfl, i2⟩ := h2
 obtain ⟨sSubs, rfl⟩ := one1 (T := (Ty.slice ty66)) rfl h3
 exact ⟨sSubs, rfl, List.forall_mem_cons.2 ⟨⟨rfl, i0⟩, List.forall_mem_cons.2 ⟨h3, fun _ hf => by cases hf⟩⟩⟩
theorem ex69 {F : Nat → Prop} {w : World} {x : D_api_Field} {sSubs : Value} (h : ty69.R F w x [str x.Tag, .int .u8 (x.Ind_0.toNat : Int), .int .u8 (x.Ind_1.toNat : Int), sSubs]) : ∀ f ∈ ([(Ty.str.fact x.Tag [str x.Tag]), ((Ty.slice ty66).fact x.Subs [sSubs])] : List Fact), Fact.P f F w := by
 obtain ⟨s, hs, hf⟩ := op69 h
 simp only [List.cons.injEq, and_true, true_and] at hs
 subst hs
 exact hf
theorem mk69 {F : Nat → Prop} {w : World} {x : D_api_Field} {sSubs : Value} (h : ∀ f ∈ ([(Ty.str.fact x.Tag [str x.Tag]), ((Ty.slice ty66).fact x.Subs [sSubs])] : List Fact), Fact.P f F w) : ty69.R F w x [str x.Tag, .int .u8 (x.Ind_0.toNat : Int), .int .u8 (x.Ind_1.toNat : Int), sSubs] := ⟨[str x.Tag], _, rfl, (h _ List.mem_cons_self), ⟨[.int .u8 (x.Ind_0.toNat : Int)], _, rfl, ⟨rfl, trivial⟩, ⟨[.int .u8 (x.Ind_1.toNat : Int)], _, rfl, ⟨rfl, trivial⟩, (h _ (List.mem_cons_of_mem _ List.mem_cons_self))⟩⟩⟩
def ty25 : Ty D_api_Record := Ty.size 32 (Ty.cat (Ty.via (fun x : D_api_Record => x.ID) (Ty.int .i64)) (Ty.via (fun x : D_api_Record => x.Fields) (Ty.slice ty69)))
theorem op25 {F : Nat → Prop} {w : World} {x : D_api_Record} {cs : List Value} (h : ty25.R F w x cs) : ∃ s : Value, cs = [.int .i64 x.ID, s] ∧ ∀ f ∈ [((Ty.int .i64).fact x.ID [.int .i64 x.ID]), ((Ty.slice ty69).fact x.Fields [s])], Fact.P f F w := by
 obtain ⟨c0, r0, rfl, h0, h1⟩ := h
 obtain ⟨rfl, i0⟩ := h0
 obtain ⟨sFields, rfl⟩ := one1 (T := (Ty.slice ty69)) rfl h1
 exact ⟨sFields, rfl, List.forall_mem_cons.2 ⟨⟨rfl, i0⟩, List.forall_mem_cons.2 ⟨h1, fun _ hf => by cases hf⟩⟩⟩
theorem ex25 {F : Nat → Prop} {w : World} {x : D_api_Record} {sFields : Value} (h : ty25.R F w x [.int .i64 x.ID, sFields]) : ∀ f ∈ ([((Ty.int .i64).fact x.ID [.int .i64 x.ID]), ((Ty.slice ty69).fact x.Fields [sFields])] : List Fact), Fact.P f F w := by
 obtain ⟨s, hs, hf⟩ := op25 h
 simp only [List.cons.injEq, and_true, true_and] at hs
 subst hs
 exact hf
theorem mk25 {F : Nat → Prop} {w : World} {x : D_api_Record} {sFields : Value} (h : ∀ f ∈ ([((Ty.int .i64).fact x.ID [.int .i64 x.ID]), ((Ty.slice ty69).fact x.Fields [sFields])] : List Fact), Fact.P f F w) : ty25.R F w x [.int .i64 x.ID, sFields] := ⟨[.int .i64 x.ID], _, rfl, (h _ List.mem_cons_self), (h _ (List.mem_cons_of_mem _ List.mem_cons_self))⟩
def ty83 : Ty D_ref16_Pair := Ty.size 2 (Ty.cat (Ty.via (fun x : D_ref16_Pair => x.From) Ty.u8) (Ty.via (fun x : D_ref16_Pair => x.To) Ty.u8))
theorem ty83_bytes : ty83.bytes = 2 := rfl
theorem op83 {F : Nat → Prop} {w : World} {x : D_ref16_Pair} {cs : List Value} (h : ty83.R F w x cs) : ∃ s : Unit, cs = [.int .u8 (x.From.toNat : Int), .int .u8 (x.To.toNat : Int)] ∧ ∀ f ∈ ([] : List Fact), Fact.P f F w := by
 obtain ⟨c0, r0, rfl, h0, h1⟩ := h
 obtain ⟨rfl, i0⟩ := h0
 obtain ⟨rfl, i1⟩ := h1
 exact ⟨(), rfl, fun _ hf => by cases hf⟩
theorem mk83 {F : Nat → Prop} {w : World} {x : D_ref16_Pair} (h : ∀ f ∈ ([] : List Fact), Fact.P f F w) : ty83.R F w x [.int .u8 (x.From.toNat : Int), .int .u8 (x.To.toNat : Int)] := ⟨[.int .u8 (x.From.toNat : Int)], _, rfl, ⟨rfl, trivial⟩, ⟨rfl, trivial⟩⟩
def ty50 : Ty D_ref16_Entry := Ty.size 56 (Ty.cat (Ty.via (fun x : D_ref16_Entry => x.From) Ty.str) (Ty.cat (Ty.via (fun x : D_ref16_Entry => x.To) Ty.str) (Ty.via (fun x : D_ref16_Entry => x.Codes) (Ty.slice ty83))))
theorem ty50_bytes : ty50.bytes = 56 := rfl
theorem op50 {F : Nat → Prop} {w : World} {x : D_ref16_Entry} {cs : List Value} (h : ty50.R F w x cs) : ∃ s : Value, cs = [str x.From, str x.To, s] ∧ ∀ f ∈ [(Ty.str.fact x.From [str x.From]), (Ty.str.fact x.To [str x.To]), ((Ty.slice ty83).fact x.Codes [s])], Fact.P f F w := by
 obtain ⟨c0, r0, rfl, h0, c1, r1, rfl, h1, h2⟩ := h
 obtain ⟨rfl, i0⟩ := h0
 obtain ⟨rfl, i1⟩ := h1
 obtain ⟨sCodes, rfl⟩ := one1 (T := (Ty.slice ty83)) rfl h2
 exact ⟨sCodes, rfl, List.forall_mem_cons.2 ⟨⟨rfl, i0⟩, List.forall_mem_cons.2 ⟨⟨rfl, i1⟩, List.forall_mem_cons.2 ⟨h2, fun _ hf => by cases hf⟩⟩⟩⟩
theorem ex50 {F : Nat → Prop} {w : World} {x : D_ref16_Entry} {sCodes : Value} (h : ty50.R F w x [str x.From, str x.To, sCodes]) : ∀ f ∈ ([(Ty.str.fact x.From [str x.From]), (Ty.str.fact x.To [str x.To]), ((Ty.slice ty83).fact x.Codes [sCodes])] : List Fact), Fact.P f F w := by
 obtain ⟨s, hs, hf⟩ := op50 h
 simp only [List.cons.injEq, and_true, true_and] at hs
 subst hs
 exact hf
theorem mk50 {F : Nat → Prop} {w : World} {x : D_ref16_Entry} {sCodes : Value} (h : ∀ f ∈ ([(Ty.str.fact x.From [str x.From]), (Ty.str.fact x.To [str x.To]), ((Ty.slice ty83).fact x.Codes [sCodes])] : List Fact), Fact.P f F w) : ty50.R F w x [str x.From, str x.To, sCodes] := ⟨[str x.From], _, rfl, (h _ List.mem_cons_self), ⟨[str x.To], _, rfl, (h _ (List.mem_cons_of_mem _ List.mem_cons_self)), (h _ (List.mem_cons_of_mem _ (List.mem_cons_of_mem _ List.mem_cons_self)))⟩⟩
def sp96 (p : D_api_Field → Option Bool) (args : List Value) (fs : List Fact) (post : Value → List Fact → Prop) : Prop :=
  ∃ (a0 : D_api_Field) (r : Bool) (s2593 : Value), p a0 = some r ∧ args = [.agg #[str a0.Tag, .int .u8 (a0.Ind_0.toNat : Int), .int .u8 (a0.Ind_1.toNat : Int), s2593]] ∧ fs = [(ty69.fact a0 [str a0.Tag, .int .u8 (a0.Ind_0.toNat : Int), .int .u8 (a0.Ind_1.toNat : Int), s2593])] ∧ post = fun v fs => v = .bool r ∧ fs = []
def sp101 (p : D_api_Sub → Option Bool) (args : List Value) (fs : List Fact) (post : Value → List Fact → Prop) : Prop :=
  ∃ (a0 : D_api_Sub) (r : Bool), p a0 = some r ∧ args = [.agg #[.int .u8 (a0.Code.toNat : Int), str a0.Value]] ∧ fs = [(ty66.fact a0 [.int .u8 (a0.Code.toNat : Int), str a0.Value])] ∧ post = fun v fs => v = .bool r ∧ fs = []
def sp116 (p : D_api_Field → D_api_Field → Option Int) (args : List Value) (fs : List Fact) (post : Value → List Fact → Prop) : Prop :=
  ∃ (a0 : D_api_Field) (a1 : D_api_Field) (r : Int) (s2594 : Value) (s2595 : Value), p a0 a1 = some r ∧ args = [.agg #[str a0.Tag, .int .u8 (a0.Ind_0.toNat : Int), .int .u8 (a0.Ind_1.toNat : Int), s2594], .agg #[str a1.Tag, .int .u8 (a1.Ind_0.toNat : Int), .int .u8 (a1.Ind_1.toNat : Int), s2595]] ∧ fs = [(ty69.fact a0 [str a0.Tag, .int .u8 (a0.Ind_0.toNat : Int), .int .u8 (a0.Ind_1.toNat : Int), s2594]), (ty69.fact a1 [str a1.Tag, .int .u8 (a1.Ind_0.toNat : Int), .int .u8 (a1.Ind_1.toNat : Int), s2595])] ∧ post = fun v fs => v = .int .i64 r ∧ fs = [((Ty.int .i64).fact r [.int .i64 r])]
def sp79 (p : Str → Option (D_crosswalk_Entry × Str × Bool)) (args : List Value) (fs : List Fact) (post : Value → List Fact → Prop) : Prop :=
  ∃ (a0 : Str) (r : (D_crosswalk_Entry × Str × Bool)), p a0 = some r ∧ args = [str a0] ∧ fs = [(Ty.str.fact a0 [str a0])] ∧ post = fun v fs => ∃ s2596 : Value, v = .tuple #[.agg #[str r.1.From, str r.1.To, s2596], str r.2.1, .bool r.2.2] ∧ fs = [(ty76.fact r.1 [str r.1.From, str r.1.To, s2596]), (Ty.str.fact r.2.1 [str r.2.1])]
def sp80 (p : D_crosswalk_Entry → UInt8 → Option (UInt8 × Bool)) (args : List Value) (fs : List Fact) (post : Value → List Fact → Prop) : Prop :=
  ∃ (a0 : D_crosswalk_Entry) (a1 : UInt8) (r : (UInt8 × Bool)) (s2597 : Value), p a0 a1 = some r ∧ args = [.agg #[str a0.From, str a0.To, s2597], .int .u8 (a1.toNat : Int)] ∧ fs = [(ty76.fact a0 [str a0.From, str a0.To, s2597])] ∧ post = fun v fs => v = .tuple #[.int .u8 (r.1.toNat : Int), .bool r.2] ∧ fs = []
def sp98 (p : D_crosswalk_Entry → Option Bool) (args : List Value) (fs : List Fact) (post : Value → List Fact → Prop) : Prop :=
  ∃ (a0 : D_crosswalk_Entry) (r : Bool) (s2598 : Value), p a0 = some r ∧ args = [.agg #[str a0.From, str a0.To, s2598]] ∧ fs = [(ty76.fact a0 [str a0.From, str a0.To, s2598])] ∧ post = fun v fs => v = .bool r ∧ fs = []
def sp120 (p : D_crosswalk_Pair → Option Bool) (args : List Value) (fs : List Fact) (post : Value → List Fact → Prop) : Prop :=
  ∃ (a0 : D_crosswalk_Pair) (r : Bool), p a0 = some r ∧ args = [.agg #[.int .u8 (a0.From.toNat : Int), .int .u8 (a0.To.toNat : Int)]] ∧ fs = [(ty82.fact a0 [.int .u8 (a0.From.toNat : Int), .int .u8 (a0.To.toNat : Int)])] ∧ post = fun v fs => v = .bool r ∧ fs = []
theorem und3 : Tryz.prog.underlying 3 = some (.int .i64) := by kernel_rfl
theorem und4 : Tryz.prog.underlying 4 = some (.bool) := by kernel_rfl
theorem und5 : Tryz.prog.underlying 5 = some (.int .u8) := by kernel_rfl
theorem und9 : Tryz.prog.underlying 9 = some (.string) := by kernel_rfl
theorem und21 : Tryz.prog.underlying 21 = some (.int .i32) := by kernel_rfl
theorem und22 : Tryz.prog.underlying 22 = some (.slice 50) := by kernel_rfl
theorem und23 : Tryz.prog.underlying 23 = some (.slice 69) := by kernel_rfl
theorem und33 : Tryz.prog.underlying 33 = some (.slice 76) := by kernel_rfl
theorem und34 : Tryz.prog.underlying 34 = some (.slice 76) := by kernel_rfl
theorem und48 : Tryz.prog.underlying 48 = some (.slice 83) := by kernel_rfl
theorem und64 : Tryz.prog.underlying 64 = some (.array 2 5) := by kernel_rfl
theorem und67 : Tryz.prog.underlying 67 = some (.slice 66) := by kernel_rfl
theorem und74 : Tryz.prog.underlying 74 = some (.slice 82) := by kernel_rfl
theorem und89 : Tryz.prog.underlying 89 = some (.slice 9) := by kernel_rfl
theorem und123 : Tryz.prog.underlying 123 = some (.slice 5) := by kernel_rfl
theorem und140 : Tryz.prog.underlying 140 = some (.slice 3) := by kernel_rfl
theorem ti3 : tinf Tryz.prog 3 = some ((.int .i64 0), 1, 8, false) := by kernel_rfl
theorem ti5 : tinf Tryz.prog 5 = some ((.int .u8 0), 1, 1, false) := by kernel_rfl
theorem ti9 : tinf Tryz.prog 9 = some ((.string ⟨#[]⟩), 1, 16, false) := by kernel_rfl
theorem ti23 : tinf Tryz.prog 23 = some ((.slice none 0 0), 1, 24, false) := by kernel_rfl
theorem ti25 : tinf Tryz.prog 25 = some ((.agg #[(.int .i64 0), (.slice none 0 0)]), 2, 32, true) := by kernel_rfl
theorem ti34 : tinf Tryz.prog 34 = some ((.slice none 0 0), 1, 24, false) := by kernel_rfl
theorem ti48 : tinf Tryz.prog 48 = some ((.slice none 0 0), 1, 24, false) := by kernel_rfl
theorem ti50 : tinf Tryz.prog 50 = some ((.agg #[(.string ⟨#[]⟩), (.string ⟨#[]⟩), (.slice none 0 0)]), 3, 56, true) := by kernel_rfl
theorem ti64 : tinf Tryz.prog 64 = some ((.agg #[(.int .u8 0), (.int .u8 0)]), 2, 2, true) := by kernel_rfl
theorem ti66 : tinf Tryz.prog 66 = some ((.agg #[(.int .u8 0), (.string ⟨#[]⟩)]), 2, 24, true) := by kernel_rfl
theorem ti67 : tinf Tryz.prog 67 = some ((.slice none 0 0), 1, 24, false) := by kernel_rfl
theorem ti69 : tinf Tryz.prog 69 = some ((.agg #[(.string ⟨#[]⟩), (.int .u8 0), (.int .u8 0), (.slice none 0 0)]), 4, 48, true) := by kernel_rfl
theorem ti74 : tinf Tryz.prog 74 = some ((.slice none 0 0), 1, 24, false) := by kernel_rfl
theorem ti76 : tinf Tryz.prog 76 = some ((.agg #[(.string ⟨#[]⟩), (.string ⟨#[]⟩), (.slice none 0 0)]), 3, 56, true) := by kernel_rfl
theorem ti82 : tinf Tryz.prog 82 = some ((.agg #[(.int .u8 0), (.int .u8 0)]), 2, 2, true) := by kernel_rfl
theorem ti83 : tinf Tryz.prog 83 = some ((.agg #[(.int .u8 0), (.int .u8 0)]), 2, 2, true) := by kernel_rfl
theorem fld25_0 : fldOff Tryz.prog 25 0 = some 0 := by kernel_rfl
theorem fld25_1 : fldOff Tryz.prog 25 1 = some 1 := by kernel_rfl
theorem fld50_0 : fldOff Tryz.prog 50 0 = some 0 := by kernel_rfl
theorem fld50_1 : fldOff Tryz.prog 50 1 = some 1 := by kernel_rfl
theorem fld50_2 : fldOff Tryz.prog 50 2 = some 2 := by kernel_rfl
theorem fld66_0 : fldOff Tryz.prog 66 0 = some 0 := by kernel_rfl
theorem fld66_1 : fldOff Tryz.prog 66 1 = some 1 := by kernel_rfl
theorem fld69_0 : fldOff Tryz.prog 69 0 = some 0 := by kernel_rfl
theorem fld69_1 : fldOff Tryz.prog 69 1 = some 1 := by kernel_rfl
theorem fld69_2 : fldOff Tryz.prog 69 2 = some 3 := by kernel_rfl
theorem fld76_0 : fldOff Tryz.prog 76 0 = some 0 := by kernel_rfl
theorem fld76_1 : fldOff Tryz.prog 76 1 = some 1 := by kernel_rfl
theorem fld76_2 : fldOff Tryz.prog 76 2 = some 2 := by kernel_rfl
theorem fld82_0 : fldOff Tryz.prog 82 0 = some 0 := by kernel_rfl
theorem fld82_1 : fldOff Tryz.prog 82 1 = some 1 := by kernel_rfl
theorem fld83_0 : fldOff Tryz.prog 83 0 = some 0 := by kernel_rfl
theorem fld83_1 : fldOff Tryz.prog 83 1 = some 1 := by kernel_rfl
theorem eg64 : Tryz.prog.eqGuardType Tryz.prog.depth 64 = false := by kernel_rfl
theorem eqt64 {x0 : Int} {x1 : Int} {y0 : Int} {y1 : Int} : eqv Tryz.prog 10000 64 (.agg [.int .u8 x0, .int .u8 x1].toArray) (.agg [.int .u8 y0, .int .u8 y1].toArray) = some (decide ((x0 : Int) = y0) && decide ((x1 : Int) = y1)) := by kernel_rfl
theorem eg66 : Tryz.prog.eqGuardType Tryz.prog.depth 66 = false := by kernel_rfl
theorem eqt66 {x0 : Int} {x1 : Str} {y0 : Int} {y1 : Str} : eqv Tryz.prog 10000 66 (.agg [.int .u8 x0, str x1].toArray) (.agg [.int .u8 y0, str y1].toArray) = some (decide ((x0 : Int) = y0) && decide (x1 = y1)) := by kernel_rfl
theorem eg83 : Tryz.prog.eqGuardType Tryz.prog.depth 83 = false := by kernel_rfl
theorem eqt83 {x0 : Int} {x1 : Int} {y0 : Int} {y1 : Int} : eqv Tryz.prog 10000 83 (.agg [.int .u8 x0, .int .u8 x1].toArray) (.agg [.int .u8 y0, .int .u8 y1].toArray) = some (decide ((x0 : Int) = y0) && decide ((x1 : Int) = y1)) := by kernel_rfl
theorem pl25 : stPl Tryz.prog 25 = some [(0, 1), (1, 1)] := by kernel_rfl
theorem pl50 : stPl Tryz.prog 50 = some [(0, 1), (1, 1), (2, 1)] := by kernel_rfl
theorem pl66 : stPl Tryz.prog 66 = some [(0, 1), (1, 1)] := by kernel_rfl
theorem pl69 : stPl Tryz.prog 69 = some [(0, 1), (1, 2), (3, 1)] := by kernel_rfl
theorem pl76 : stPl Tryz.prog 76 = some [(0, 1), (1, 1), (2, 1)] := by kernel_rfl
theorem pl82 : stPl Tryz.prog 82 = some [(0, 1), (1, 1)] := by kernel_rfl
theorem pl83 : stPl Tryz.prog 83 = some [(0, 1), (1, 1)] := by kernel_rfl
end Go.WK.S
