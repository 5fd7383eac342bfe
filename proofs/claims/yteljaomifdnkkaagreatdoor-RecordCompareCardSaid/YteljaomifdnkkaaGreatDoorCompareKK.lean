/- WK, part k: contracts of functions that the model stands in for: bytes of strings sought and counted. No program in sight. -/
import Derived.Test.YteljaomifdnkkaaGreatDoorCompareKJ
import Derived.Lib.Bytealg
import Derived.Laws.StandIn
set_option linter.unusedSimpArgs false
set_option linter.unusedVariables false
namespace Go.WK
open Go.RowKit

structure SpecX (P : Program) (f : FuncId) (args : List Value) (post : Value → List Fact → Prop) : Prop where
  run : ∃ v fs, post v fs ∧ (∀ F w, ∀ f ∈ fs, Fact.P f F w) ∧ ∀ w, (callFunc f args.toArray).run P w = .ok (.value v) w
section
variable {P : Program} {Q : Exit → Act → World → Prop} {g : Gh} {N : Nat} {st : St} {K : Act → World → Prop} {d ty : Nat} {f : Operand} {xs : List Operand} {tys : Array TypeId} {pos : String} {aft : Array Edge} {gd : Option (Nat × Bool)}
theorem hv_callx {gid : FuncId} {vs : List Value} {post : Value → List Fact → Prop} (hc : SpecX P gid vs post)
  (hf : opv st.env f = some (.func (.func gid) #[] #[])) (hx : opvs st.env xs = some vs) (hd : Nat.blt d N = true)
  (k : ∀ v fs', post v fs' → At g N (({ st with fs := fs' ++ st.fs } : St).put d v) K) :
  At g N st (fun a w => Oper.wp P ⟨some d, .call ⟨.value f, xs.toArray, tys⟩, ty, pos, aft, gd⟩ a w K Q) := by
 obtain ⟨v, fs, hp, hfs, hrun⟩ := hc.run
 refine hv_step (fun _ : Unit => v) (fun _ => { st with fs := fs ++ st.fs }) (fun a w h3 h4 => ⟨(), w, ?_, ?_, rfl⟩) hd (fun _ => k v fs hp)
 ·have he := evals_of h3 hx
  have : (#[] ++ Array.map a.eval xs.toArray) ++ #[] = vs.toArray := by rw [List.map_toArray, he]; simp
  simp only [execOp, resolve, eval_of h3 hf, Deferred.ofValue, Sem.run_bind, Sem.run_pure, Result.andThen_ok, invoke, this, hrun]
 ·exact ⟨h4.m0, h4.ext, h4.bxs, h4.rws, h4.sep, fun f' hf' => (List.mem_append.1 hf').elim (hfs _ _ f') (h4.fcs f')⟩
end

theorem indexByte_lt : ∀ (l : List UInt8) (c : UInt8), Lib.indexByte l c < l.length
 | [], c => by unfold Lib.indexByte; decide
 | b :: l, c => by
  have := indexByte_lt l c
  unfold Lib.indexByte
  split
  ·simp only [List.length_cons]; omega
  ·split
   ·simp only [List.length_cons]; omega
   ·simp only [List.length_cons]; omega
def postInt (r : Int) (v : Value) (fs : List Fact) : Prop := v = .int .i64 r ∧ fs = [((Ty.int .i64).fact r [.int .i64 r])]
theorem ext_indexByte {P : Program} {f : FuncId} {fn : Func} (hf : P.funcs[f]? = some fn) (hname : (fn.name == "runtime.NumGoroutine") = false)
  (hb : fn.body.isNone = true) (hn : Extern.findNext fn = none) (he : Extern.find fn = some Extern.BytealgIndexByte.indexByte) {a : Str} {c : UInt8} (hl : a.length ≤ 9223372036854775807) : SpecX P f [str a, .int .u8 (c.toNat : Int)] (postInt (Lib.indexByte a c)) := by
 refine ⟨_, _, ⟨rfl, rfl⟩, fun F w f hf => ?_, fun w => ?_⟩
 ·simp only [List.mem_singleton] at hf
  subst hf
  have h1 := Lib.indexByte_ge a c
  have h2 := indexByte_lt a c
  exact ⟨rfl, by simp only [lo, hi]; omega⟩
 ·rw [run_callFunc_standIn hf hname hb hn he]
  have := Lib.run_indexByteString (P := P) ⟨a.toArray⟩ (c.toNat : Int) w
  simp only [str]
  rw [this]
  simp [Result.andThen_ok]
end Go.WK
