/- WK, part m: what a call's arguments read as, as data. No program in sight. -/
import Derived.Test.YteljaomifdnkkaaGreatDoorCompareKL
import Derived.ChangeArms
import Derived.OpenShut
import Derived.Handed
import Derived.SizedLaws
import Derived.Carry
import Derived.ProofKit
set_option linter.unusedSimpArgs false
set_option linter.unusedVariables false
namespace Go.WK
open Go.RowKit

abbrev inW (W : World) : Nat → Prop := fun k => k < W.heap.size

/-- Whatever reads at the type T has these cells: 'C'. -/
structure Rdr (P : Program) (T n : Nat) (C : World → List Value → Prop) : Prop where
  sz : P.cellsOf T = n
  rd : ∀ {H : Type} (enc : TypeId × Value → H) (W : World) (fuel : Nat) (cs : List Value) (d : DataW H) (ps : List MemPlace),
    DataW.trod enc P W 0 (fun _ => true) true fuel T cs = some (d, ps) → (∀ m ∈ d.weights P T, m ≤ reachBytes) → C W cs

theorem Rdr.imp {P : Program} {T n : Nat} {C D : World → List Value → Prop} (h : Rdr P T n C) (k : ∀ W cs, C W cs → D W cs) : Rdr P T n D :=
 ⟨h.sz, fun enc W fuel cs d ps h1 h2 => k W cs (h.rd enc W fuel cs d ps h1 h2)⟩

/-- These cells are a datum. -/
def Is {α : Type} (T : Ty α) (W : World) (cs : List Value) : Prop := ∃ x, T.R (inW W) W x cs

theorem rdr_str {P : Program} {T : Nat} (hu : P.underlying T = some .string) (hs : P.cellsOf T = 1) : Rdr P T 1 (Is Ty.str) := by
 refine ⟨hs, fun enc W fuel cs d ps h hw => ?_⟩
 obtain ⟨s, rfl, hx, hm⟩ := DataW.trod_string hu h
 refine ⟨s.data.toList, ?_, ?_⟩
 ·simp [str]
 ·have : s.data.toList.length = s.size := by rw [Array.length_toList]; rfl
  have : maxLen ≤ 9223372036854775807 := by decide
  omega
theorem wf_bd {k : IntKind} {n : Int} (h : (Lit.int k n).wf = true) : lo k ≤ n ∧ n ≤ hi k := by
 have h' : k.min ≤ n ∧ n ≤ k.max := by simpa [Lit.wf] using h
 cases k <;> simp only [lo, hi] <;> simp [IntKind.min, IntKind.max, IntKind.bits, IntKind.signed] at h' <;> omega
theorem rdr_int {P : Program} {T : Nat} {k : IntKind} (hu : P.underlying T = some (.int k)) (hs : P.cellsOf T = 1) : Rdr P T 1 (Is (Ty.int k)) := by
 refine ⟨hs, fun enc W fuel cs d ps h hw => ?_⟩
 obtain ⟨n, rfl, hx, hwf⟩ := DataW.trod_int hu h
 exact ⟨n, rfl, wf_bd hwf⟩
theorem rdr_u8 {P : Program} {T : Nat} (hu : P.underlying T = some (.int .u8)) (hs : P.cellsOf T = 1) : Rdr P T 1 (Is Ty.u8) := by
 refine ⟨hs, fun enc W fuel cs d ps h hw => ?_⟩
 obtain ⟨n, rfl, hx, hwf⟩ := DataW.trod_int hu h
 have := wf_bd hwf
 simp only [lo, hi] at this
 exact ⟨u8 n, by simp only [u8_toNat this], trivial⟩

/-- Cells one behind the other. -/
def Cat : List (World → List Value → Prop) → World → List Value → Prop
  | [], _, cs => cs = []
  | C :: l, W, cs => ∃ a b, cs = a ++ b ∧ C W a ∧ Cat l W b

inductive Flds (P : Program) : Nat → List Field → List (World → List Value → Prop) → Nat → Prop
  | nil {o : Nat} : Flds P o [] [] o
  | cons {o n m : Nat} {f : Field} {fs : List Field} {C : World → List Value → Prop} {l : List (World → List Value → Prop)} (ho : f.offset = o) (hr : Rdr P f.type n C) (ht : Flds P (o + n) fs l m) : Flds P o (f :: fs) (C :: l) m

theorem flds_cat {P : Program} {H : Type} {enc : TypeId × Value → H} {W : World} {fuel : Nat} {cs : List Value} {o m : Nat} {fs : List Field} {l : List (World → List Value → Prop)} (hF : Flds P o fs l m) : ∀ {xs : List (DataW H × List MemPlace)}, cs.length = m → xs.length = fs.length →
  (∀ (i : Nat) (f : Field), fs[i]? = some f → DataW.trod enc P W 0 (fun _ => true) true fuel f.type ((cs.drop f.offset).take (P.cellsOf f.type)) = xs[i]?) →
  (∀ n ∈ DataW.weightsEach P (fs.map (·.type)) (xs.map (·.1)), n ≤ reachBytes) → Cat l W (cs.drop o) := by
 induction hF with
 | nil => intro xs hl _ _ _; simp [Cat, hl]
 | @cons o n m f fs C l ho hr ht ih =>
  intro xs hl hx h hw
  cases xs with
  | nil => simp at hx
  | cons x xs =>
   have h0 := h 0 f rfl
   simp only [List.getElem?_cons_zero] at h0
   simp only [List.map_cons, DataW.weightsEach, List.mem_append] at hw
   rw [ho, hr.sz] at h0
   refine ⟨(cs.drop o).take n, cs.drop (o + n), ?_, hr.rd enc W fuel _ x.1 x.2 h0 (fun k hk => hw k (.inl hk)), ?_⟩
   ·rw [← List.drop_drop, List.take_append_drop]
   ·exact ih hl (by simpa using hx) (fun i f hf => by simpa using h (i + 1) f (by simpa using hf)) (fun k hk => hw k (.inr hk))

theorem rdr_struct {P : Program} {T n : Nat} {fs : Array Field} {l : List (World → List Value → Prop)} (hu : P.underlying T = some (.struct fs)) (hs : P.cellsOf T = n) (hf : Flds P 0 fs.toList l n) : Rdr P T n (Cat l) := by
 refine ⟨hs, fun enc W fuel cs d ps h hw => ?_⟩
 obtain ⟨xs, m, rfl, hx, hl, hxl, hel⟩ := DataW.trod_struct hu h
 simp only [Prod.mk.injEq] at hx
 obtain ⟨rfl, rfl⟩ := hx
 simp only [DataW.weights, hu] at hw
 have := flds_cat (cs := cs) (W := W) (enc := enc) (fuel := m) hf (by rw [hl, hs]) (by simpa using hxl) (fun i f hi => hel i f (by simpa using hi)) (by simpa using hw)
 simpa using this

theorem rep_cat {P : Program} {H : Type} {enc : TypeId × Value → H} {W : World} {fuel e n : Nat} {C : World → List Value → Prop} (hr : Rdr P e n C) {cs : List Value} : ∀ (k o : Nat) (xs : List (DataW H × List MemPlace)), cs.length = (o + k) * n → xs.length = k →
  (∀ i, i < k → DataW.trod enc P W 0 (fun _ => true) true fuel e ((cs.drop ((o + i) * n)).take n) = xs[i]?) →
  (∀ m ∈ DataW.weightsAll P e (xs.map (·.1)), m ≤ reachBytes) → Cat (List.replicate k C) W (cs.drop (o * n))
 | 0, o, xs, hl, hx, h, hw => by simp [Cat, hl]
 | k + 1, o, [], hl, hx, h, hw => by simp at hx
 | k + 1, o, x :: xs, hl, hx, h, hw => by
  have h0 := h 0 (by omega)
  simp only [List.getElem?_cons_zero, Nat.add_zero] at h0
  simp only [List.map_cons, DataW.weightsAll, List.mem_append] at hw
  refine ⟨(cs.drop (o * n)).take n, cs.drop ((o + 1) * n), ?_, hr.rd enc W fuel _ x.1 x.2 h0 (fun k hk => hw k (.inl hk)), ?_⟩
  ·rw [Nat.succ_mul, ← List.drop_drop, List.take_append_drop]
  ·exact rep_cat hr k (o + 1) xs (by rw [hl]; congr 1; omega) (by simpa using hx) (fun i hi => by
    have := h (i + 1) (by omega)
    rw [show o + (i + 1) = o + 1 + i by omega] at this
    simpa using this) (fun k hk => hw k (.inr hk))
theorem rdr_array {P : Program} {T e k n : Nat} {C : World → List Value → Prop} (hu : P.underlying T = some (.array k e)) (hs : P.cellsOf T = k * n) (hr : Rdr P e n C) : Rdr P T (k * n) (Cat (List.replicate k C)) := by
 refine ⟨hs, fun enc W fuel cs d ps h hw => ?_⟩
 obtain ⟨xs, m, rfl, hx, hl, hxl, hel⟩ := DataW.trod_array hu h
 simp only [Prod.mk.injEq] at hx
 obtain ⟨rfl, rfl⟩ := hx
 simp only [DataW.weights, hu] at hw
 have := rep_cat (cs := cs) (W := W) (enc := enc) (fuel := m) hr k 0 xs (by rw [hl, hs]; simp) hxl (fun i hi => by have := hel i hi; rw [hr.sz] at this; simpa using this) hw
 simpa using this

theorem weights_all {P : Program} {H : Type} {e : Nat} : ∀ {l : List (DataW H)} {d : DataW H}, d ∈ l → ∀ n ∈ d.weights P e, n ∈ DataW.weightsAll P e l
 | x :: l, d, hd, n, hn => by
  simp only [DataW.weightsAll, List.mem_append]
  rcases List.mem_cons.1 hd with rfl | hd
  ·exact .inl hn
  ·exact .inr (weights_all hd n hn)
theorem mapM_at {α β : Type} {f : α → Option β} : ∀ {l : List α} {r : List β}, l.mapM f = some r → r.length = l.length ∧ ∀ (i : Nat) (a : α), l[i]? = some a → f a = r[i]?
 | [], r, h => by simp at h; subst h; simp
 | a :: l, r, h => by
  rw [List.mapM_cons] at h
  cases h1 : f a with
  | none => simp [h1] at h
  | some b =>
   cases h2 : l.mapM f with
   | none => simp [h1, h2] at h
   | some bs =>
    simp [h1, h2] at h
    subst h
    obtain ⟨e1, e2⟩ := mapM_at h2
    refine ⟨by simp [e1], fun i x hi => ?_⟩
    cases i with
    | zero => simp at hi; subst hi; simpa using h1
    | succ i => simpa using e2 i x (by simpa using hi)
theorem cells_at {w : World} {a : Addr} {n : Nat} {cs : List Value} (h : w.cells? 0 a n = some cs) : cs.length = n ∧ ∀ (j : Nat) (u : Value), cs[j]? = some u → w.cell? (a.add j) = some u := by
 unfold World.cells? at h
 rw [if_pos (Nat.zero_le _)] at h
 obtain ⟨h1, h2⟩ := mapM_at h
 refine ⟨by simpa using h1, fun j u hu => ?_⟩
 have hj := (List.getElem?_eq_some_iff.1 hu).1
 have hl : cs.length = n := by simpa using h1
 have := h2 j j (by rw [List.getElem?_range (by omega)])
 rw [this, hu]
theorem cell_lt {w : World} {a : Addr} {u : Value} (h : w.cell? a = some u) : a.block < w.heap.size := by
 unfold World.cell? at h
 split at h
 ·rename_i hh; exact (Array.getElem?_eq_some_iff.1 hh).1
 ·cases h

theorem rdr_slice {α : Type} {P : Program} {T e : Nat} {E : Ty α} (hu : P.underlying T = some (.slice e)) (hs : P.cellsOf T = 1) (hr : Rdr P e E.sz (Is E)) (hb : P.bytesOf e = E.bytes) : Rdr P T 1 (Is E.slice) := by
 refine ⟨hs, fun enc W fuel cs d ps h hw => ?_⟩
 rcases DataW.trod_slice hu h with ⟨rfl, hx⟩ | ⟨a, len, cap, elems, rest, n, _, rfl, hx, _, hlc, hcm, hlen, hel, _, _⟩
 ·exact ⟨[], none, 0, rfl, Nat.le_refl _, Nat.zero_le _, by simp, fun i x hi => by simp at hi⟩
 ·simp only [Prod.mk.injEq] at hx
  obtain ⟨rfl, _⟩ := hx
  simp only [DataW.weights, hu, List.mem_cons, List.mem_append, List.length_map] at hw
  have hbytes := hw _ (.inl rfl)
  rw [hb, hlen] at hbytes
  have key : ∀ i, i < len → ∃ x ec, E.R (inW W) W x ec ∧ ∀ (j : Nat) (u : Value), ec[j]? = some u → a.block < W.heap.size ∧ W.cell? (a.add (i * E.sz + j)) = some u := by
   intro i hi
   have h1 := hel i hi
   rw [List.getElem?_eq_getElem (by omega)] at h1
   obtain ⟨ec, h2, h3⟩ := Option.bind_eq_some_iff.1 h1
   obtain ⟨h4, h5⟩ := cells_at h2
   obtain ⟨x, hx⟩ := hr.rd enc W n ec elems[i].1 elems[i].2 h3 (fun m hm => hw m (.inr (.inl (weights_all (List.mem_map_of_mem (List.getElem_mem _)) m hm))))
   refine ⟨x, ec, hx, fun j u hju => ?_⟩
   have h6 := h5 j u hju
   rw [hr.sz, add_add'] at h6
   exact ⟨by have := cell_lt h6; rwa [add_block] at this, h6⟩
  let f : (i : Nat) → i < len → α := fun i hi => (key i hi).choose
  refine ⟨(List.range len).pmap f (fun i hi => List.mem_range.1 hi), some a, cap, by simp, by simpa using hlc, hcm, ?_, ?_⟩
  ·have : reachBytes = 140737488351232 := rfl
   have h8 : ((List.range len).pmap f (fun i hi => List.mem_range.1 hi)).length = len := by simp
   rw [h8]
   have h7 : len * E.bytes ≤ (len + rest.length) * E.bytes := Nat.mul_le_mul_right _ (by omega)
   omega
  ·intro i x hi
   have hlt : i < len := by have := (List.getElem?_eq_some_iff.1 hi).1; simpa using this
   have e : x = f i hlt := by
    rw [List.getElem?_pmap] at hi
    simp [hlt] at hi
    exact hi.symm
   subst e
   obtain ⟨ec, h1, h2⟩ := (key i hlt).choose_spec
   exact ⟨a, ec, rfl, h1, h2⟩

theorem below_of_ext {w w' : World} (h : Ext (fun _ => False) w w') : Below w.heap.size w w' := ⟨h.os, h.tape, h.output, h.size, fun k hk => h.block k hk (fun f => f)⟩
/-- What a contract says, of a call on which nobody else looks. -/
theorem Spec.calls {P : Program} {f : FuncId} {args : List Value} {fs : List Fact} {post : Value → List Fact → Prop} (h : Spec P f args fs post) (w : World) (hf : ∀ x ∈ fs, x.P (inW w) w) :
  Calls P f args.toArray w fun e w' => ∃ v fs', e = .returned v ∧ post v fs' ∧ Below w.heap.size w w' :=
 (h.ok w (fun _ => False) (fun _ hk => hk.elim) (fun x hx => Fact.mv x (hf x hx) fun k hk => ⟨⟨hk, fun f => f⟩, rfl⟩)).mono fun e w' ⟨v, fs', h1, h2, h3, _⟩ => ⟨v, fs', h1, h2, below_of_ext h3⟩
section
open Go.WideShapes
variable {P : Program} {T n : Nat} {H : Type} {enc : TypeId × Value → H} {W : World} {d : DataW H} {ps : List MemPlace} {v : Value} {b : Nat}
theorem arg_struct {fs : Array Field} {C : World → List Value → Prop} (hu : P.underlying T = some (.struct fs)) (hr : Rdr P T n C) (hv : Value.okWide P W .any b T v) (h : DataW.Trod enc P W 0 (fun _ => true) true T v d ps) (hw : ∀ m ∈ d.weights P T, m ≤ reachBytes) :
  ∃ cs : List Value, v = .agg cs.toArray ∧ C W cs := by
 obtain ⟨cs, rfl, _⟩ := okWide_struct hu hv
 obtain ⟨fuel, h⟩ := h
 exact ⟨cs.toList, by simp, hr.rd enc W fuel _ d ps h hw⟩
theorem arg_lt (h : DataW.Trod enc P W 0 (fun _ => true) true T v d ps) : ∀ x ∈ ps, x.block < W.heap.size := by
 obtain ⟨m, hm⟩ := h
 exact DataW.trod_lt m _ _ _ hm
theorem wt {ts : List Nat} {ds : List (DataW H)} (h : (DataW.weightsEach P ts ds).all (· ≤ reachBytes) = true) (j : Nat) (ht : ts[j]? = some T) (hd : ds[j]? = some d) : ∀ m ∈ d.weights P T, m ≤ reachBytes := by
 intro m hm
 have := List.all_eq_true.1 h _ (DataW.weights_mem_each ht hd m hm)
 simpa using this
end
end Go.WK
