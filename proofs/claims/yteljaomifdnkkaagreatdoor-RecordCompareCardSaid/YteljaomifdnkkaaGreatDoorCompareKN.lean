/- WK, part n: scopes with one label ahead, runes to strings, the tables of unicode/utf8. No program in sight. -/
import Derived.Test.YteljaomifdnkkaaGreatDoorCompareKM
import Derived.Scope
import Derived.ScopeJumps
import Derived.Shelf.Unicode.DecodeSlow
import GoSem.Conv.IntToString
set_option linter.unusedSimpArgs false
set_option linter.unusedVariables false
namespace Go.WK
open Go.RowKit
section
variable {P : Program} {Q : Exit → Act → World → Prop} {g : Gh} {N : Nat} {st : St} {J K : Act → World → Prop} {l : Nat}

theorem at_scope {V : Type} {c rest : Code} (l : Nat) (pre : V → Prop) (S : V → St) (hf : findLabel c l = some rest)
  (h1 : At g N st (c.wp P (Exit.jump l (fun a w => ∃ v, pre v ∧ Holds g N (S v) a w) Q)))
  (h2 : ∀ v, pre v → At g N (S v) (rest.wp P (Exit.jump l (fun _ _ => False) Q))) : At g N st ((Code.scope c).wp P Q) :=
 h1.imp fun a w h => wp_scope_jumps l _ (fun _ _ => 0) hf h fun a w ⟨v, hp, hv⟩ => wp_mono ((h2 v hp).on hv) fun e a' w' q => by
  cases e with
  | goto l' => exact q.2.elim
  | _ => exact q
theorem at_scope0 {c : Code} (k : At g N st (c.wp P (Exit.noGoto Q))) : At g N st ((Code.scope c).wp P Q) := k.imp fun _ _ h => wp_scope_straight h
theorem at_goto {l : Nat} (k : At g N st (Q (.goto l))) : At g N st ((Code.goto l).wp P Q) := k.imp fun _ _ h => wp_goto h
theorem at_then_goto {i : Nat} (k : At g N st (Q (.goto i))) : At g N st (Exit.then K Q (.goto i)) := k
theorem at_in_goto {id i : Nat} (k : At g N st (Q (.goto i))) : At g N st (Exit.inBlock id Q (.goto i)) := k
theorem at_ng (k : At g N st (Q .normal)) : At g N st (Exit.noGoto Q .normal) := k
theorem at_ng_ret (k : At g N st (Q .ret)) : At g N st (Exit.noGoto Q .ret) := k
theorem at_jm_ret (k : At g N st (Q .ret)) : At g N st (Exit.jump l J Q .ret) := k
theorem at_jump {V : Type} {pre : V → Prop} {S : V → St} (v : V) (hp : pre v) (s : Sub (S v) st) : At g N st (Exit.jump l (fun a w => ∃ v, pre v ∧ Holds g N (S v) a w) Q (.goto l)) :=
 at_of_holds fun _ _ h => ⟨rfl, v, hp, h.weak s⟩
/-- The model of a scope: what follows the label, by a name. -/
def withC {α β : Type} (C : α → Option β) (M : (α → Option β) → Option β) : Option β := M C
theorem withC_open {α β : Type} {C : α → Option β} {M : (α → Option β) → Option β} {r : β} (h : withC C M = some r) : ∃ D, D = C ∧ M D = some r := ⟨C, rfl, h⟩
end

/-! ### The same steps, in shorter words -/
section
variable {P : Program} {ops : Array Oper} {Q : Exit → Act → World → Prop} {g : Gh} {N : Nat} {st st0 : St} {K : Act → World → Prop} {m n d ty : Nat} {bs : List Bool} {op : Op} {pos : String} {aft : Array Edge} {gd : Option (Nat × Bool)} {v : Value}
theorem aa_p (i : Nat) (hi : ops[i]? = some ⟨some d, op, ty, pos, aft, gd⟩) (h : Lt P ⟨st.env, [], [], []⟩ ⟨some d, op, ty, pos, aft, gd⟩ v)
  (k : At g N (st.put d v) (AA P ops Q st0 m n (bs.set i true))) (hb : takeB ops m bs i = true := by kernel_rfl) (hg : GdIs ops st.env ⟨some d, op, ty, pos, aft, gd⟩ true := by exact rfl) (hd : Nat.blt d N = true := by rfl) (hT : ∀ w, Mdl g st w → TS (SW st0) m bs.toArray w := by exact ts_in 0 0 rfl rfl) : At g N st (AA P ops Q st0 m (n + 1) bs) := aa_pure i hi hb rfl hg h hd hT k
theorem aa_pg (i : Nat) (hi : ops[i]? = some ⟨some d, op, ty, pos, aft, gd⟩) (hg : GdIs ops st.env ⟨some d, op, ty, pos, aft, gd⟩ true) (h : Lt P ⟨st.env, [], [], []⟩ ⟨some d, op, ty, pos, aft, gd⟩ v)
  (k : At g N (st.put d v) (AA P ops Q st0 m n (bs.set i true))) (hb : takeB ops m bs i = true := by kernel_rfl) (hd : Nat.blt d N = true := by rfl) (hT : ∀ w, Mdl g st w → TS (SW st0) m bs.toArray w := by exact ts_in 0 0 rfl rfl) : At g N st (AA P ops Q st0 m (n + 1) bs) := aa_pure i hi hb rfl hg h hd hT k
theorem aa_l (i : Nat) (hi : ops[i]? = some ⟨some d, op, ty, pos, aft, gd⟩) (h : Lt P ⟨st.env, st0.bx, [], st0.fs⟩ ⟨some d, op, ty, pos, aft, gd⟩ v)
  (k : At g N (st.put d v) (AA P ops Q st0 m n (bs.set i true))) (hb : loadB ops m bs i = true := by kernel_rfl) (hg : GdIs ops st.env ⟨some d, op, ty, pos, aft, gd⟩ true := by exact rfl) (hd : Nat.blt d N = true := by rfl) (hT : ∀ w, Mdl g st w → TS (SW st0) m bs.toArray w := by exact ts_in 0 0 rfl rfl) : At g N st (AA P ops Q st0 m (n + 1) bs) := aa_load i hi hb rfl hg h hd hT k
theorem aa_lg (i : Nat) (hi : ops[i]? = some ⟨some d, op, ty, pos, aft, gd⟩) (hg : GdIs ops st.env ⟨some d, op, ty, pos, aft, gd⟩ true) (h : Lt P ⟨st.env, st0.bx, [], st0.fs⟩ ⟨some d, op, ty, pos, aft, gd⟩ v)
  (k : At g N (st.put d v) (AA P ops Q st0 m n (bs.set i true))) (hb : loadB ops m bs i = true := by kernel_rfl) (hd : Nat.blt d N = true := by rfl) (hT : ∀ w, Mdl g st w → TS (SW st0) m bs.toArray w := by exact ts_in 0 0 rfl rfl) : At g N st (AA P ops Q st0 m (n + 1) bs) := aa_load i hi hb rfl hg h hd hT k
theorem aa_o (i : Nat) (hi : ops[i]? = some ⟨some d, op, ty, pos, aft, gd⟩) (hg : GdIs ops st.env ⟨some d, op, ty, pos, aft, gd⟩ false)
  (k : At g N (st.put d undef) (AA P ops Q st0 m n (bs.set i true))) (hb : takeB ops m bs i = true := by kernel_rfl) (hd : Nat.blt d N = true := by rfl) (hT : ∀ w, Mdl g st w → TS (SW st0) m bs.toArray w := by exact ts_in 0 0 rfl rfl) : At g N st (AA P ops Q st0 m (n + 1) bs) := aa_off i hi hb rfl hg hd hT k
theorem aa_one (i : Nat) (k : At g N st (fun a w => wpOp P ops (NoP Q) i (fun a' w' => AA P ops Q st0 m n (bs.set i true) a' w') a w)) (hr : Region.ready .any ops bs.toArray = [i] := by kernel_rfl)
  (hT : ∀ w, Mdl g st w → TS (SW st0) m bs.toArray w := by exact ts_in 0 0 rfl rfl) : At g N st (AA P ops Q st0 m (n + 1) bs) := aa_all hr rfl hT (List.forall_mem_singleton.2 k)
end
section
variable {P : Program} {ops : Array Oper} {Q : Exit → Act → World → Prop} {g : Gh} {N : Nat} {st : St} {K X : Act → World → Prop} {d ty : Nat} {pos : String} {aft : Array Edge} {x : Operand} {v : Value} {rest : List Oper}
theorem s_mv (h : opv st.env x = some v) (k : At g N (st.put d v) (wpList P ops Q rest)) (hd : Nat.blt d N = true := by rfl) : At g N st (wpList P ops Q (⟨some d, .move x, ty, pos, aft, none⟩ :: rest)) := at_lt (lt_move h) hd k
theorem s_as (h : opv st.env x = some v) (k : At g N (st.put d v) (wpList P ops Q rest)) (hd : Nat.blt d N = true := by rfl) : At g N st (wpList P ops Q (⟨some d, .assign x, ty, pos, aft, none⟩ :: rest)) := at_lt (lt_assign h) hd k
theorem s_tsr {id : Nat} {l : List Oper} {y : Code} {Q' : Exit → Act → World → Prop} (k : At g N st (wpList P l.toArray (Exit.then (y.wp P Q') Q') l)) : At g N st (Exit.then (((Code.region id l.toArray false).seq y).wp P Q') Q .normal) := at_then (at_seq (at_region k))
theorem s_tr {id : Nat} {l : List Oper} {Q' : Exit → Act → World → Prop} (k : At g N st (wpList P l.toArray Q' l)) : At g N st (Exit.then ((Code.region id l.toArray false).wp P Q') Q .normal) := at_then (at_region k)
theorem s_sr {id : Nat} {l : List Oper} {y : Code} (k : At g N st (wpList P l.toArray (Exit.then (y.wp P Q) Q) l)) : At g N st (((Code.region id l.toArray false).seq y).wp P Q) := at_seq (at_region k)
theorem s_ntsr {id : Nat} {l : List Oper} {y : Code} {Q' : Exit → Act → World → Prop} (k : At g N st (wpList P l.toArray (Exit.then (y.wp P Q') Q') l)) : At g N st (wpList P ops (Exit.then (((Code.region id l.toArray false).seq y).wp P Q') Q) []) := at_nil (s_tsr k)
theorem s_nt (k : At g N st X) : At g N st (wpList P ops (Exit.then X Q) []) := k
end

/-! ### A rune as a string -/
def encR (r : Int) : Str := (Utf8.encode r).data.toList
section
variable {P : Program} {st : St} {ty : Nat} {x : Operand} {pos : String} {aft : Array Edge} {dst : Option Nat} {gd : Option (Nat × Bool)}
theorem lt_convrs {src dt : Nat} {kd : IntKind} {a : Int} (hx : opv st.env x = some (.int kd a)) (hs : P.underlying src = some (.int kd)) (ht : P.underlying dt = some .string)
  : Lt P st ⟨dst, .convert src dt x, ty, pos, aft, gd⟩ (str (encR a)) :=
 (fun a' w h3 _ => by
  simp [execOp, eval_of h3 hx, convert, run_underlying hs, run_underlying ht, Conv.intToString, str, encR])
theorem encR_len (r : Int) : (encR r).length ≤ 9223372036854775807 := by
 unfold encR Utf8.encode
 simp only []
 generalize (if Utf8.valid r = true then r.toNat else Utf8.runeError) = c
 by_cases h1 : c < 0x80
 ·rw [if_pos h1]; simp
 ·rw [if_neg h1]
  by_cases h2 : c < 0x800
  ·rw [if_pos h2]; simp
  ·rw [if_neg h2]
   by_cases h3 : c < 0x10000
   ·rw [if_pos h3]; simp
   ·rw [if_neg h3]; simp
end

/-! ### The tables of unicode/utf8 -/
def utf8F (g3 g4 : Nat) : Fact where
  P := fun F w => F g3 ∧ F g4 ∧ Lib.Utf8Tabs g3 g4 w
  mv := fun {F F' w w'} ⟨h1, h2, h3⟩ k => ⟨(k _ h1).1, (k _ h2).1, fun c hc => (cell_of_heap (a := ⟨g3, c, none⟩) (k _ h1).2).trans (h3.1 c hc),
    fun i hi => ⟨(cell_of_heap (a := ⟨g4, 2 * i, none⟩) (k _ h2).2).trans (h3.2 i hi).1, (cell_of_heap (a := ⟨g4, 2 * i + 1, none⟩) (k _ h2).2).trans (h3.2 i hi).2⟩⟩
theorem utf8F_of {W : World} {g3 g4 : Nat} (h : Lib.Utf8Tabs g3 g4 W) : (utf8F g3 g4).P (inW W) W :=
 ⟨by simpa using cell_lt (h.1 0 (by omega)), by simpa using cell_lt (h.2 0 (by omega)).1, h⟩

theorem decodeGo_bd (s : ByteArray) : (Lib.decodeGo s).1 ≤ 1114111 ∧ (Lib.decodeGo s).2 ≤ 4 := by
 unfold Lib.decodeGo
 by_cases h : s.size = 0
 ·rw [if_pos h]; omega
 ·rw [if_neg h, Lib.decode_at]
  unfold Lib.decodeN
  repeat' split
  all_goals (simp only []; omega)

/-- A contract of the shelf's, as one of ours. -/
theorem spec_of_calls {P : Program} {f : FuncId} {args : List Value} {fs : List Fact} {post : Value → List Fact → Prop} {v : Value} (fs' : List Fact) (en : Enters P f) (hp : post v fs') (hf : ∀ x ∈ fs', ∀ F w, x.P F w)
  (h : ∀ (w : World) (M0 : Nat → Prop), (∀ x ∈ fs, x.P (fun k => k < w.heap.size ∧ ¬ M0 k) w) → Calls P f args.toArray w fun e w' => e = .returned v ∧ Below w.heap.size w w') : Spec P f args fs post :=
 ⟨en, fun w M0 _ h2 => (h w M0 h2).mono fun e w' ⟨he, hb⟩ => ⟨v, fs', he, hp, ⟨hb.os, hb.tape, hb.output, hb.size, fun k hk _ => hb.block k hk⟩, fun x hx => hf x hx _ _⟩⟩
end Go.WK
