/- WK, part p: the shelf's sort of rows of structs, as a contract with a row that is handed over. No program in sight. -/
import Derived.Test.YtidmlhihfanglaaGreatDoorMapsKJ
import Derived.Shelf.SlSortCmp.InsertionK
set_option linter.unusedSimpArgs false
set_option linter.unusedVariables false
namespace Go.WK
open Go.RowKit Go.Proofs Go.Sort Go.Lib Go.Shelf
set_option linter.unusedVariables false
set_option linter.unusedSimpArgs false

section
variable {α : Type} [Inhabited α] (enc : α → List Value) (k : Nat) (w : World) (b off m : Nat) (dk : Array α) (os : Array Obj)
theorem heap_sortK (j : Nat) (hj : j < w.heap.size) (hne : j ≠ b) : (sortWorldK enc k w b off m dk os).heap[j]? = w.heap[j]? := by
 simp only [sortWorldK, grow, putRowK, putRow, mapBlock, Sort.ahead]
 rw [Array.getElem?_append_left (by simpa using hj), Array.getElem?_modify, if_neg (Ne.symm hne)]
theorem blk_sortK {cur : Array Value} {e : TypeId} {fr : Nat × Nat} (h : w.heap[b]? = some (.cells cur e fr)) : (sortWorldK enc k w b off m dk os).heap[b]? = some (.cells (putCells id off (flatK enc k dk) cur) e fr) := by
 have hb := (Array.getElem?_eq_some_iff.1 h).1
 simp only [sortWorldK, grow, putRowK, putRow, mapBlock, Sort.ahead]
 rw [Array.getElem?_append_left (by simpa using hb), Array.getElem?_modify, if_pos rfl, h]
 rfl
theorem ext_sortK (S : Nat → Prop) (hS : S b) : Ext S w (sortWorldK enc k w b off m dk os) :=
 ⟨rfl, rfl, rfl, by simp only [sortWorldK, grow, putRowK, putRow, mapBlock, Sort.ahead, Array.size_append, Array.size_modify]; omega, fun j hj hn => heap_sortK enc k w b off m dk os j hj (fun e => hn (e ▸ hS))⟩
end
theorem flat_at {α : Type} [Inhabited α] {enc : α → List Value} {k : Nat} (hk : ∀ x, (enc x).length = k) (d : Array α) {i : Nat} (hi : i < d.size) : ((flatK enc k d).toList.drop (i * k)).take k = enc d[i]! := by
 have hle : i * k + k ≤ d.size * k := by rw [← Nat.succ_mul]; exact Nat.mul_le_mul_right k hi
 apply List.ext_getElem
 ·simp only [List.length_take, List.length_drop, Array.length_toList, size_flatK, hk]; omega
 ·intro j h1 h2
  rw [hk] at h2
  have hlt : i * k + j < (flatK enc k d).size := by rw [size_flatK]; omega
  have hg := get_flatK enc k d (i * k + j) (by omega)
  rw [getElem!_pos (flatK enc k d) (i * k + j) hlt] at hg
  have hd : (i * k + j) / k = i := by rw [Nat.mul_comm, Nat.mul_add_div (by omega), Nat.div_eq_of_lt h2, Nat.add_zero]
  have hm : (i * k + j) % k = j := by rw [Nat.mul_comm, Nat.mul_add_mod, Nat.mod_eq_of_lt h2]
  rw [hd, hm] at hg
  simp only [List.getElem_take, List.getElem_drop, Array.getElem_toList]
  rw [hg]
  exact getElem!_pos (enc d[i]!) j (by rw [hk]; exact h2)
theorem putc_take {F cur : Array Value} (h : F.size ≤ cur.size) : (putCells id 0 F cur).toList.take F.size = F.toList := by
 apply List.ext_getElem
 ·simp only [List.length_take, Array.length_toList, putCells, Array.size_mapIdx]; omega
 ·intro j h1 h2
  have hj : j < F.size := by simpa using h2
  simp only [List.getElem_take, Array.getElem_toList, putCells, Array.getElem_mapIdx, Nat.zero_add, Nat.zero_le, true_and, Nat.sub_zero, id]
  rw [if_pos hj, getElem!_pos F j hj]

/-- The sorted row. -/
def sorted {α : Type} (lt : α → α → Bool) (xs : List α) : List α := xs.mergeSort fun a b => !lt b a

/-- What the shelf says of a sort of rows of structs of k cells. -/
def SortsK (P : Program) (f g k : Nat) : Prop := ∀ {β : Type} [Inhabited β] (enc : β → List Value), (∀ x, (enc x).length = k) → (∀ x, ∀ v ∈ enc x, v.oneCell' = true) → ∀ (cf : β → β → Int), SWO (ltOf cf) → ∀ (b cap : Nat) (d : Array β) (w : World),
  CmpLays P g #[] enc k cf b 0 d.size w → HoldsK enc k w b 0 d → b < w.heap.size → d.size < 4611686018427387904 → (∀ x y, (ltOf cf) x y = false → (ltOf cf) y x = false → x = y) →
    Calls P f #[.slice (some ⟨b, 0, none⟩) d.size cap, .func (.func g) #[] #[]] w fun e w' => e = .returned (.tuple #[]) ∧ ∃ n os, w' = sortWorldK enc k w b 0 n (d.toList.mergeSort fun x y => !(ltOf cf) y x).toArray os
def SortsNone (P : Program) (f g : Nat) : Prop := ∀ (p : Option Addr) (cap : Nat) (w : World), Calls P f #[.slice p 0 cap, .func (.func g) #[] #[]] w fun e w' => e = .returned (.tuple #[]) ∧ w' = w

theorem sort_specG {α : Type} (T : Ty α) {P : Program} {f g : Nat} (hcall : SortsK P f g T.sz) (hnone : SortsNone P f g) (hpos : 0 < T.sz) (hb : 0 < T.bytes) (en : Enters P f)
  (lt : α → α → Bool) (cf : α → α → Int) (hlt : ∀ a b, (cf a b < 0) ↔ lt a b = true) (swo : SWO lt)
  (hcmp : ∀ F w x y cx cy, T.R F w x cx → T.R F w y cy → ∀ W, Calls P g #[.agg cx.toArray, .agg cy.toArray] W fun e w' => e = .returned (.int .i64 (cf x y)) ∧ ∃ q os', w' = grow (W.drewN q) os')
  (xs : List α) (hd : xs.Pairwise fun a b => ¬ (lt a b = false ∧ lt b a = false)) (v : Value) (e n : Nat) (inner : List Value) :
  SpecG P f [v, .func (.func g) #[] #[]] [⟨v, e, T.sz, n, inner⟩] [T.row xs inner, pureF (xs.length * T.bytes ≤ 140737488355328)]
   (fun u rw fs => u = .tuple #[] ∧ ∃ i, rw = [⟨v, e, T.sz, n, i⟩] ∧ fs = [T.row (sorted lt xs) i, pureF ((sorted lt xs).length * T.bytes ≤ 140737488355328)]) := by
 refine ⟨en, fun w M0 h1 hr hsep hf => ?_⟩
 obtain ⟨hrok, hrm⟩ := hr ⟨v, e, T.sz, n, inner⟩ (by simp)
 have hrow := hf (T.row xs inner) (by simp)
 have hpure : xs.length * T.bytes ≤ 140737488355328 := hf (pureF (xs.length * T.bytes ≤ 140737488355328)) (by simp)
 obtain ⟨hin, hcase⟩ := hrok
 simp only at hin hcase
 obtain ⟨hlen, hel⟩ := hrow
 have hn : n = xs.length := Nat.eq_of_mul_eq_mul_right hpos (hin.symm.trans hlen)
 have hslen : (sorted lt xs).length = xs.length := by unfold sorted; rw [List.length_mergeSort]
 have finish : ∀ (w' : World) (inner' : List Value), Ext (rmut [⟨v, e, T.sz, n, inner⟩]) w w' → Row.ok w' ⟨v, e, T.sz, n, inner'⟩ → (T.row (sorted lt xs) inner').P (fun k => k < w'.heap.size ∧ ¬ M0 k ∧ ¬ rmut [⟨v, e, T.sz, n, inner'⟩] k) w' →
   EndsG w M0 [⟨v, e, T.sz, n, inner⟩] (fun u rw fs => u = .tuple #[] ∧ ∃ i, rw = [⟨v, e, T.sz, n, i⟩] ∧ fs = [T.row (sorted lt xs) i, pureF ((sorted lt xs).length * T.bytes ≤ 140737488355328)]) (.returned (.tuple #[])) w' := by
  intro w' inner' hext hok hfact
  refine ⟨_, _, _, rfl, ⟨rfl, inner', rfl, rfl⟩, hext, fun r hr' => ?_, ?_, fun f hf' => ?_⟩
  ·obtain rfl := List.mem_singleton.1 hr'
   refine ⟨hok, fun k hk => ⟨hrm k hk, .inl ⟨_, List.mem_singleton.2 rfl, hk⟩⟩⟩
  ·exact List.pairwise_singleton _ _
  ·rcases List.mem_cons.1 hf' with rfl | hf'
   ·exact hfact
   ·obtain rfl := List.mem_singleton.1 hf'
    show (sorted lt xs).length * T.bytes ≤ 140737488355328
    rw [hslen]; exact hpure
 by_cases h0 : n = 0
 ·have hx : xs = [] := List.length_eq_zero_iff.1 (by omega)
  subst hx
  have hv : ∃ p cap, v = .slice p 0 cap := by
   rcases hcase with ⟨a, hv, _⟩ | ⟨gg, cap, cur, hv, _⟩
   ·exact ⟨a, 0, hv⟩
   ·exact ⟨_, _, by rw [hv, h0]⟩
  obtain ⟨p, cap, hv⟩ := hv
  subst hv
  refine (hnone p cap w).mono ?_
  rintro e' w' ⟨rfl, rfl⟩
  refine finish w' inner (Ext.refl _ _) ⟨hin, hcase⟩ ⟨?_, fun i x hx => ?_⟩
  ·simpa [sorted] using hlen
  ·simp [sorted] at hx
 ·obtain ⟨b, cap, cur, hv, hheap, hcap, hmax, hsz, htake⟩ : ∃ b cap cur, v = .slice (some ⟨b, 0, none⟩) n (cap + 1) ∧ w.heap[b]? = some (.cells cur e (0, 0)) ∧ n ≤ cap + 1 ∧ cap + 1 ≤ maxLen ∧ cur.size = (cap + 1) * T.sz ∧ cur.toList.take (n * T.sz) = inner := by
   rcases hcase with ⟨a, _, hv⟩ | h
   ·exact absurd hv h0
   ·exact h
  subst hv
  have hblk : b < w.heap.size := (Array.getElem?_eq_some_iff.1 hheap).1
  have hle : n * T.sz ≤ cur.size := by rw [hsz]; exact Nat.mul_le_mul_right _ hcap
  have hS : rmut [⟨.slice (some ⟨b, 0, none⟩) n (cap + 1), e, T.sz, n, inner⟩] b := by
   refine ⟨_, List.mem_singleton.2 rfl, ?_⟩
   cases n with
   | zero => exact absurd rfl h0
   | succ n => rfl
  have hrm' : ∀ (inner' : List Value) (k : Nat), rmut [⟨.slice (some ⟨b, 0, none⟩) n (cap + 1), e, T.sz, n, inner'⟩] k ↔ k = b := by
   intro inner' k
   constructor
   ·rintro ⟨r, hr', hk⟩
    obtain rfl := List.mem_singleton.1 hr'
    simp only [Row.blk, Option.some.injEq] at hk
    exact hk.symm
   ·rintro rfl
    exact ⟨_, List.mem_singleton.2 rfl, rfl⟩
  subst hn
  let enc : Fin xs.length → List Value := fun i => (inner.drop (i.val * T.sz)).take T.sz
  have hk : ∀ i, (enc i).length = T.sz := fun i => T.len (hel i.val xs[i.val] (List.getElem?_eq_getElem i.isLt))
  haveI : Inhabited (Fin xs.length) := ⟨⟨0, by omega⟩⟩
  let d : Array (Fin xs.length) := (List.finRange xs.length).toArray
  have hdsz : d.size = xs.length := by simp [d]
  have hdi : ∀ i (hi : i < xs.length), d[i]! = ⟨i, hi⟩ := fun i hi => by
   rw [getElem!_pos d i (by rw [hdsz]; exact hi)]
   simp [d]
  have hflat : (flatK enc T.sz d).toList = inner := by
   apply List.ext_getElem
   ·rw [Array.length_toList, size_flatK, hdsz, hin]
   ·intro j g1 g2
    have hj : j < d.size * T.sz := by simpa using g1
    have hg := get_flatK enc T.sz d j hj
    rw [getElem!_pos (flatK enc T.sz d) j (by simpa using hj)] at hg
    rw [Array.getElem_toList, hg]
    have hq : j / T.sz < xs.length := by rw [hdsz] at hj; exact (Nat.div_lt_iff_lt_mul hpos).2 hj
    rw [hdi _ hq]
    have hr' : j % T.sz < T.sz := Nat.mod_lt _ hpos
    rw [getElem!_pos (enc ⟨j / T.sz, hq⟩) (j % T.sz) (by rw [hk]; exact hr')]
    simp only [enc, List.getElem_take, List.getElem_drop]
    congr 1
    rw [Nat.mul_comm]; exact Nat.div_add_mod j T.sz
  have hH : HoldsK enc T.sz w b 0 d := by
   intro j hj
   have hj' : j < (flatK enc T.sz d).toList.length := by simpa using hj
   rw [getElem!_pos (flatK enc T.sz d) j hj]
   have ej : (flatK enc T.sz d)[j] = inner[j]'(by rw [← hflat]; exact hj') := by
    have := List.getElem_of_eq hflat hj'
    rwa [Array.getElem_toList] at this
   have hjn : j < inner.length := by rw [← hflat]; exact hj'
   have hc : cur[j]? = some (inner[j]) := by
    have : (cur.toList.take (xs.length * T.sz))[j]? = some inner[j] := by rw [htake]; exact List.getElem?_eq_getElem hjn
    rw [List.getElem?_take_of_lt (by omega)] at this
    simpa using this
   refine ⟨?_, ?_⟩
   ·rw [ej]
    simp [World.cell?, hheap, hc]
   ·simp [World.frozen?, hheap]
  have hcl : CmpLays P g #[] enc T.sz (fun i j : Fin xs.length => cf (xs[i.val]'i.isLt) (xs[j.val]'j.isLt)) b 0 d.size w := by
   intro m os dk hdk i j
   have := hcmp _ _ _ _ _ _ (hel i.val xs[i.val] (List.getElem?_eq_getElem i.isLt)) (hel j.val xs[j.val] (List.getElem?_eq_getElem j.isLt)) (sortWorldK enc T.sz w b 0 m dk os)
   simpa using this
  have hlt' : ltOf (fun i j : Fin xs.length => cf (xs[i.val]'i.isLt) (xs[j.val]'j.isLt)) = fun i j => lt (xs[i.val]'i.isLt) (xs[j.val]'j.isLt) := by
   funext i j
   unfold ltOf
   rw [Bool.eq_iff_iff, decide_eq_true_eq]
   exact hlt _ _
  have hO : SWO (ltOf (fun i j : Fin xs.length => cf (xs[i.val]'i.isLt) (xs[j.val]'j.isLt))) := by
   rw [hlt']
   exact ⟨fun x => swo.irrefl _, fun x y z => swo.trans _ _ _, fun x y z => swo.ntrans _ _ _⟩
  have hT : ∀ x y, (ltOf (fun i j : Fin xs.length => cf (xs[i.val]'i.isLt) (xs[j.val]'j.isLt))) x y = false → (ltOf (fun i j : Fin xs.length => cf (xs[i.val]'i.isLt) (xs[j.val]'j.isLt))) y x = false → x = y := by
   rw [hlt']
   intro i j a1 a2
   rcases Nat.lt_trichotomy i.val j.val with c | c | c
   ·exact absurd ⟨a1, a2⟩ (List.pairwise_iff_getElem.1 hd i.val j.val i.isLt j.isLt c)
   ·exact Fin.ext c
   ·exact absurd ⟨a2, a1⟩ (List.pairwise_iff_getElem.1 hd j.val i.val j.isLt i.isLt c)
  have hone : ∀ x, ∀ u ∈ enc x, u.oneCell' = true := fun i => T.one (hel i.val xs[i.val] (List.getElem?_eq_getElem i.isLt))
  have hlenb : xs.length < 4611686018427387904 := by
   have : xs.length * 1 ≤ xs.length * T.bytes := Nat.mul_le_mul_left _ hb
   omega
  have main := hcall enc hk hone _ hO b (cap + 1) d w hcl hH hblk (by rw [hdsz]; exact hlenb) hT
  rw [hdsz] at main
  refine main.mono ?_
  rintro e' w' ⟨rfl, m, os, rfl⟩
  rw [hlt']
  generalize hD : (d.toList.mergeSort fun x y => !(lt (xs[y.val]'y.isLt) (xs[x.val]'x.isLt))) = D
  have hDlen : D.length = xs.length := by rw [← hD, List.length_mergeSort]; simp [d]
  have hmap : D.map (fun i : Fin xs.length => xs[i.val]'i.isLt) = sorted lt xs := by
   rw [← hD]
   unfold sorted
   rw [List.map_mergeSort (s := fun a b => !lt b a) (fun _ _ _ _ => rfl)]
   congr 1
   simp only [d]
   apply List.ext_getElem
   ·simp
   ·intro j g1 g2; simp
  have hsize : (flatK enc T.sz D.toArray).size = xs.length * T.sz := by rw [size_flatK]; simp [hDlen]
  refine finish _ (flatK enc T.sz D.toArray).toList (ext_sortK _ _ _ _ _ _ _ _ _ hS) ⟨by rw [Array.length_toList, hsize], .inr ⟨b, cap, _, rfl, blk_sortK _ _ _ _ _ _ _ _ hheap, hcap, hmax, by rw [← hsz]; simp [putCells], ?_⟩⟩ ⟨?_, fun i x hx => ?_⟩
  ·show List.take (xs.length * T.sz) _ = _
   rw [← hsize]
   exact putc_take (by rw [hsize]; exact hle)
  ·rw [Array.length_toList, hsize, hslen]
  ·have hi : i < D.length := by have := (List.getElem?_eq_some_iff.1 hx).1; rw [hslen] at this; omega
   rw [flat_at hk _ (by simpa using hi)]
   have ex : x = xs[(D[i]).val]'(D[i]).isLt := by
    rw [← hmap, List.getElem?_map, List.getElem?_eq_getElem hi] at hx
    exact (Option.some.inj hx).symm
   rw [ex, getElem!_pos D.toArray i (by simpa using hi), List.getElem_toArray]
   refine T.mv (hel (D[i]).val _ (List.getElem?_eq_getElem (D[i]).isLt)) (fun k hk' => ⟨⟨?_, hk'.2.1, fun hm => hk'.2.2 ((hrm' inner k).2 ((hrm' _ k).1 hm))⟩, ?_⟩)
   ·have := (ext_sortK enc T.sz w b 0 m D.toArray os (fun j => j = b) rfl).size
    exact Nat.lt_of_lt_of_le hk'.1 this
   ·exact heap_sortK _ _ _ _ _ _ _ _ _ hk'.1 (fun e => hk'.2.2 ((hrm' inner k).2 e))
end Go.WK
