/- Plain law: characters, texts: the program's and the reference's answers are one. No program in sight but the models. -/
import Derived.Test.YteljaomifdnkkaaGreatDoorCompareYV1
set_option linter.unusedSimpArgs false
set_option linter.unusedVariables false
namespace Go.WK.S
open Go Go.Proofs Go.WK Go.RowKit
set_option maxRecDepth 100000
set_option linter.unusedVariables false
set_option linter.unusedSimpArgs false

theorem u8n {n : Nat} (h : n < 256) : (UInt8.ofNat n).toNat = n := by simp; omega
theorem encR_two {c : Nat} (h : 128 ≤ c ∧ c < 2048) : encR (c : Int) = [UInt8.ofNat (0xC0 + c / 64), UInt8.ofNat (0x80 + c % 64)] := by
  have hv : Utf8.valid (c : Int) = true := by unfold Utf8.valid; simp; omega
  unfold encR Utf8.encode
  simp only [hv, if_true, Int.toNat_natCast]
  rw [if_neg (by omega), if_pos (by omega)]
theorem encR_three {c : Nat} (h : 2048 ≤ c ∧ c < 65536) (h2 : c < 55296 ∨ 57344 ≤ c) : encR (c : Int) = [UInt8.ofNat (0xE0 + c / 4096), UInt8.ofNat (0x80 + c / 64 % 64), UInt8.ofNat (0x80 + c % 64)] := by
  have hv : Utf8.valid (c : Int) = true := by unfold Utf8.valid; simp; omega
  unfold encR Utf8.encode
  simp only [hv, if_true, Int.toNat_natCast]
  rw [if_neg (by omega), if_neg (by omega), if_pos (by omega)]
theorem two_hit (b1 b2 : UInt8) (h1 : 192 ≤ b1.toNat) (h2 : 128 ≤ b2.toNat ∧ b2.toNat < 192) : ∀ (n : Nat) (s : Str), s.length ≤ n → two s = true →
    ((∃ j, 1 ≤ j ∧ s[j]? = some b2 ∧ s[j - 1]? = some b1) ↔ code2 b1 b2 ∈ win s) := by
  intro n
  induction n with
  | zero =>
    intro s hs _
    have := List.eq_nil_of_length_eq_zero (Nat.le_zero.1 hs)
    subst this
    simp [win]
  | succ n ih =>
    intro s hs h
    match s, h with
    | [], _ => simp [win]
    | x :: y :: t, h =>
      obtain ⟨h3, h4⟩ := two_cons h
      have := ih t (by simp at hs; omega) h4
      simp only [win, List.mem_cons, ← this]
      constructor
      · rintro ⟨j, hj, ha, hb⟩
        match j, hj with
        | 1, _ =>
          simp at ha hb
          subst ha hb
          exact .inl rfl
        | 2, _ =>
          simp at hb
          subst hb
          omega
        | j + 3, _ => exact .inr ⟨j + 1, by omega, by simpa using ha, by simpa using hb⟩
      · rintro (e | ⟨j, hj, ha, hb⟩)
        · refine ⟨1, by omega, ?_, ?_⟩
          · have : b2 = y := by apply UInt8.toNat_inj.1; unfold code2 at e; omega
            simp [this]
          · have : b1 = x := by apply UInt8.toNat_inj.1; unfold code2 at e; omega
            simp [this]
        · refine ⟨j + 2, by omega, by simpa using ha, ?_⟩
          rw [show j + 2 - 1 = (j - 1) + 2 by omega]
          simpa using hb
theorem m204_eq (c : Int) : m204 c = some (decide (0 ≤ c ∧ c < 55296 ∨ 57343 < c ∧ c ≤ 1114111)) := by
  unfold m204
  by_cases h1 : 0 ≤ c <;> by_cases h2 : c < 55296 <;> by_cases h3 : 57343 < c <;> by_cases h4 : c ≤ 1114111 <;> simp [h1, h2, h3, h4]
theorem m194_hit {s : Str} (hs : s.length ≤ 100000) (hs2 : 2 ≤ s.length) (hsp : sparse s = true) (c : Int) (hp : 2 ≤ (encR c).length ∧ (encR c).length ≤ 3) (b : UInt8) (hb : (encR c)[(encR c).length - 1]? = some b) (hb2 : b.toNat < 192) :
    ∃ r, m194_l1 s c (s.length + 1) (((encR c).length : Int) - 1) 0 = some r ∧ Says s (encR c) b ((encR c).length - 1) r := by
  obtain ⟨r, hr, hsays⟩ := m194_l1_eq s c hs hsp (by omega) b hb hb2 (s.length + 1) ((encR c).length - 1) 0 (by omega) (by omega) (by omega) (by omega)
  have e : (((encR c).length : Int) - 1) = (((encR c).length - 1 : Nat) : Int) := by omega
  rw [e]
  exact ⟨r, hr, hsays⟩
theorem says_iff {s p : Str} {b : UInt8} {i : Nat} {r : Fl Int Unit} {q : Prop} [Decidable q] (h : Says s p b i r) (k : (∃ j, i ≤ j ∧ Hit s p b j) ↔ q) {x : Int} (hx : (match r with | .ret v => v | .go _ => -1) = x) : decide (0 ≤ x) = decide q := by
  subst hx
  rw [Bool.eq_iff_iff]
  simp only [decide_eq_true_eq]
  rw [← k]
  cases r with
  | ret v => exact h
  | go v => exact ⟨fun h' => absurd (show (0 : Int) ≤ -1 from h') (by decide), fun h' => absurd h' h⟩
theorem m175_eq {s : Str} (hs : s.length ≤ 100000) (hs2 : 2 ≤ s.length) (h2 : two s = true) (hsp : sparse s = true) (c : Nat) (hc : c ≤ 65535) (hne : c ≠ 65533) : m175 s (c : Int) = some (decide ((c : Int) ∈ win s)) := by
  unfold m175 m194
  by_cases h0 : c < 128
  · rw [if_pos (by omega), decide_eq_true (by omega)]
    simp only [Option.bind_some, if_true]
    have hw : (w8 (c : Int)).toNat = c := by have := w8_in (a := (c : Int)) (by omega); omega
    have hnm : w8 (c : Int) ∉ s := fun hm => by have := two_ge h2 _ hm; omega
    rw [m203_ix _ _ (by omega), ix_none hnm]
    simp only [Option.bind_some]
    rw [decide_eq_false (by decide), decide_eq_false (fun hm => by have := win_bd h2 _ hm; omega)]
  · rw [if_pos (by omega), decide_eq_false (by omega)]
    simp only [Option.bind_some, Bool.false_eq_true, if_false]
    rw [if_neg (by omega), m204_eq]
    simp only [Option.bind_some]
    by_cases hsur : 55296 ≤ c ∧ c ≤ 57343
    · rw [decide_eq_false (by omega)]
      simp only [Bool.false_eq_true, if_false, Option.bind_some]
      rw [decide_eq_false (by decide), decide_eq_false (fun hm => by have := win_bd h2 _ hm; omega)]
    · rw [decide_eq_true (by omega)]
      simp only [if_true]
      by_cases h3 : c < 2048
      · have he := encR_two ⟨by omega, h3⟩
        have hl : (encR (c : Int)).length = 2 := by rw [he]; rfl
        have b1 := u8n (n := 0xC0 + c / 64) (by omega)
        have b2 := u8n (n := 0x80 + c % 64) (by omega)
        obtain ⟨r, hr, hsays⟩ := m194_hit hs hs2 hsp (c : Int) (by omega) (UInt8.ofNat (0x80 + c % 64)) (by rw [hl, he]; rfl) (by omega)
        have key := two_hit (UInt8.ofNat (0xC0 + c / 64)) (UInt8.ofNat (0x80 + c % 64)) (by omega) (by omega) s.length s (Nat.le_refl _) h2
        have hcode : code2 (UInt8.ofNat (0xC0 + c / 64)) (UInt8.ofNat (0x80 + c % 64)) = (c : Int) := by
          unfold code2; rw [b1, b2]; omega
        rw [hcode] at key
        suffices iff : (∃ j, (encR (c : Int)).length - 1 ≤ j ∧ Hit s (encR (c : Int)) (UInt8.ofNat (0x80 + c % 64)) j) ↔ (c : Int) ∈ win s by
          rw [hr]
          cases r with
          | ret v => exact congrArg some (says_iff hsays iff rfl)
          | go v => exact congrArg some (says_iff hsays iff rfl)
        rw [← key, hl]
        constructor
        · rintro ⟨j, hj, ha, hb⟩
          refine ⟨j, by omega, ha, ?_⟩
          have := hb 1 (by omega) (by omega)
          rw [hl, he] at this
          simpa using this
        · rintro ⟨j, hj, ha, hb⟩
          refine ⟨j, by omega, ha, fun t ht1 ht2 => ?_⟩
          rw [hl] at ht2
          have ht : t = 1 := by omega
          subst ht
          rw [hl, he, hb]
          rfl
      · have he := encR_three (c := c) ⟨by omega, by omega⟩ (by omega)
        have hl : (encR (c : Int)).length = 3 := by rw [he]; rfl
        have b1 := u8n (n := 0xE0 + c / 4096) (by omega)
        have b2 := u8n (n := 0x80 + c % 64) (by omega)
        obtain ⟨r, hr, hsays⟩ := m194_hit hs hs2 hsp (c : Int) (by omega) (UInt8.ofNat (0x80 + c % 64)) (by rw [hl, he]; rfl) (by omega)
        suffices iff : (∃ j, (encR (c : Int)).length - 1 ≤ j ∧ Hit s (encR (c : Int)) (UInt8.ofNat (0x80 + c % 64)) j) ↔ (c : Int) ∈ win s by
          rw [hr]
          cases r with
          | ret v => exact congrArg some (says_iff hsays iff rfl)
          | go v => exact congrArg some (says_iff hsays iff rfl)
        constructor
        · rintro ⟨j, hj, ha, hb⟩
          have := hb 2 (by omega) (by omega)
          rw [hl, he] at this
          have hm := List.mem_of_getElem? (a := UInt8.ofNat (0xE0 + c / 4096)) (by simpa using this)
          have := two_ge h2 _ hm
          omega
        · intro hm
          have := win_bd h2 _ hm
          omega

def latB : Str := [195, 128, 195, 136, 195, 140, 195, 146, 195, 153, 195, 160, 195, 168, 195, 172, 195, 178, 195, 185, 195, 129, 195, 137, 195, 141, 195, 147, 195, 154, 195, 157, 195, 161, 195, 169, 195, 173, 195, 179, 195, 186, 195, 189, 196, 134, 196, 135, 196, 185, 196, 186, 197, 131, 197, 132, 197, 148, 197, 149, 197, 154, 197, 155, 197, 185, 197, 186, 195, 130, 195, 138, 195, 142, 195, 148, 195, 155, 195, 162, 195, 170, 195, 174, 195, 180, 195, 187, 196, 136, 196, 137, 196, 156, 196, 157, 196, 164, 196, 165, 196, 180, 196, 181, 197, 156, 197, 157, 197, 180, 197, 181, 197, 182, 197, 183, 195, 131, 195, 145, 195, 149, 195, 163, 195, 177, 195, 181, 196, 168, 196, 169, 197, 168, 197, 169, 196, 128, 196, 129, 196, 146, 196, 147, 196, 170, 196, 171, 197, 140, 197, 141, 197, 170, 197, 171, 196, 130, 196, 131, 196, 148, 196, 149, 196, 158, 196, 159, 196, 172, 196, 173, 197, 142, 197, 143, 197, 172, 197, 173, 196, 138, 196, 139, 196, 150, 196, 151, 196, 160, 196, 161, 196, 176, 197, 187, 197, 188, 195, 132, 195, 139, 195, 143, 195, 150, 195, 156, 195, 164, 195, 171, 195, 175, 195, 182, 195, 188, 195, 191, 197, 184, 195, 133, 195, 165, 197, 174, 197, 175, 197, 144, 197, 145, 197, 176, 197, 177, 196, 140, 196, 141, 196, 142, 196, 143, 196, 154, 196, 155, 197, 135, 197, 136, 197, 152, 197, 153, 197, 160, 197, 161, 197, 164, 197, 165, 197, 189, 197, 190, 196, 189, 196, 190, 195, 135, 195, 167, 196, 162, 196, 163, 196, 182, 196, 183, 196, 187, 196, 188, 197, 133, 197, 134, 197, 150, 197, 151, 197, 158, 197, 159, 197, 162, 197, 163, 196, 132, 196, 133, 196, 152, 196, 153, 196, 174, 196, 175, 197, 178, 197, 179, 195, 134, 195, 166, 195, 152, 195, 184, 195, 144, 195, 176, 195, 158, 195, 190, 195, 159, 196, 144, 196, 145, 196, 166, 196, 167, 196, 177, 197, 129, 197, 130, 197, 146, 197, 147, 197, 138, 197, 139, 197, 166, 197, 167]
def grkB : Str := [206, 134, 206, 136, 206, 137, 206, 138, 206, 140, 206, 142, 206, 143, 206, 172, 206, 173, 206, 174, 206, 175, 207, 140, 207, 141, 207, 142, 206, 170, 206, 171, 207, 138, 207, 139]
def cyrB : Str := [208, 129, 209, 145, 208, 135, 209, 151, 208, 132, 209, 148, 210, 144, 210, 145, 208, 142, 209, 158, 208, 134, 209, 150]

theorem lat_two : two latB = true := by decide +kernel
theorem grk_two : two grkB = true := by decide +kernel
theorem cyr_two : two cyrB = true := by decide +kernel
theorem lat_sparse : sparse latB = true := by decide +kernel
theorem grk_sparse : sparse grkB = true := by decide +kernel
theorem cyr_sparse : sparse cyrB = true := by decide +kernel
theorem lat_len : latB.length = 366 := by decide +kernel
theorem grk_len : grkB.length = 36 := by decide +kernel
theorem cyr_len : cyrB.length = 24 := by decide +kernel
theorem lat190 (c : Nat) (hc : c ≤ 65535) (hne : c ≠ 65533) : m175 latB (c : Int) = some (decide ((c : Int) ∈ win latB)) := m175_eq (by rw [lat_len]; omega) (by rw [lat_len]; omega) lat_two lat_sparse c hc hne
theorem grk190 (c : Nat) (hc : c ≤ 65535) (hne : c ≠ 65533) : m175 grkB (c : Int) = some (decide ((c : Int) ∈ win grkB)) := m175_eq (by rw [grk_len]; omega) (by rw [grk_len]; omega) grk_two grk_sparse c hc hne
theorem cyr190 (c : Nat) (hc : c ≤ 65535) (hne : c ≠ 65533) : m175 cyrB (c : Int) = some (decide ((c : Int) ∈ win cyrB)) := m175_eq (by rw [cyr_len]; omega) (by rw [cyr_len]; omega) cyr_two cyr_sparse c hc hne
theorem lat187 (c : Int) : m197 latB c = some (decide (c ∈ win latB)) := m197_eq (by rw [lat_len]; omega) lat_two c
theorem grk187 (c : Int) : m197 grkB c = some (decide (c ∈ win grkB)) := m197_eq (by rw [grk_len]; omega) grk_two c
theorem cyr187 (c : Int) : m197 cyrB c = some (decide (c ∈ win cyrB)) := m197_eq (by rw [cyr_len]; omega) cyr_two c

/-! ### what is a character -/
def n192 (a0 : Int) : Option Int :=
  (m191 a0 65 90).bind fun x245 =>
  if x245 = true then
   some 1
  else
   (m191 a0 97 122).bind fun x248 =>
   if x248 = true then
    some 1
   else
    if a0 = 383 then
     some 1
    else
     (m191 a0 64257 64258).bind fun x252 =>
     if x252 = true then
      some 1
     else
      (m175 latB (IntKind.i32.wrap a0)).bind fun x255 =>
      if x255 = true then
       some 1
      else
       if a0 = 930 then
        (m191 a0 945 969).bind fun x259 =>
        if x259 = true then
         some 2
        else
         (m175 grkB (IntKind.i32.wrap a0)).bind fun x262 =>
         if x262 = true then
          some 2
         else
          (m191 a0 1040 1103).bind fun x265 =>
          if x265 = true then
           some 3
          else
           (m175 cyrB (IntKind.i32.wrap a0)).bind fun x268 =>
           if x268 = true then
            some 3
           else
            some 0
       else
        (m191 a0 913 937).bind fun x271 =>
        if x271 = true then
         some 2
        else
         (m191 a0 945 969).bind fun x274 =>
         if x274 = true then
          some 2
         else
          (m175 grkB (IntKind.i32.wrap a0)).bind fun x277 =>
          if x277 = true then
           some 2
          else
           (m191 a0 1040 1103).bind fun x280 =>
           if x280 = true then
            some 3
           else
            (m175 cyrB (IntKind.i32.wrap a0)).bind fun x283 =>
            if x283 = true then
             some 3
            else
             some 0
theorem m192_fold : m192 = n192 := rfl
def n177 (a0 : Int) : Option (Int × Int) :=
  (m196 a0 65281 65374).bind fun x2206 =>
  Option.bind (α := Int) (
   if x2206 = true then
    some (IntKind.i64.wrap (a0 - 65248))
   else
    some a0
  ) fun x2208 =>
  if x2208 = 32 then
   some (0, 4)
  else
   if x2208 = 160 then
    some (0, 4)
   else
    (m196 x2208 48 57).bind fun x2214 =>
    if x2214 = true then
     some (0, 3)
    else
     if x2208 = 178 then
      some (0, 3)
     else
      if x2208 = 179 then
       some (0, 3)
      else
       if x2208 = 185 then
        some (0, 3)
       else
        (m196 x2208 65 90).bind fun x2220 =>
        if x2220 = true then
         some (1, 1)
        else
         (m196 x2208 97 122).bind fun x2223 =>
         if x2223 = true then
          some (1, 1)
         else
          if x2208 = 383 then
           some (1, 1)
          else
           if x2208 = 64257 then
            some (1, 1)
           else
            if x2208 = 64258 then
             some (1, 1)
            else
             (m197 latB x2208).bind fun x2229 =>
             if x2229 = true then
              some (1, 1)
             else
              (m196 x2208 768 772).bind fun x2232 =>
              if x2232 = true then
               some (0, 2)
              else
               (m196 x2208 774 776).bind fun x2235 =>
               if x2235 = true then
                some (0, 2)
               else
                (m196 x2208 778 780).bind fun x2238 =>
                if x2238 = true then
                 some (0, 2)
                else
                 if x2208 = 803 then
                  some (0, 2)
                 else
                  if x2208 = 807 then
                   some (0, 2)
                  else
                   if x2208 = 808 then
                    some (0, 2)
                   else
                    (m196 x2208 913 929).bind fun x2244 =>
                    if x2244 = true then
                     some (2, 1)
                    else
                     (m196 x2208 931 937).bind fun x2247 =>
                     if x2247 = true then
                      some (2, 1)
                     else
                      (m196 x2208 945 969).bind fun x2250 =>
                      if x2250 = true then
                       some (2, 1)
                      else
                       (m197 grkB x2208).bind fun x2253 =>
                       if x2253 = true then
                        some (2, 1)
                       else
                        (m196 x2208 1040 1103).bind fun x2256 =>
                        if x2256 = true then
                         some (3, 1)
                        else
                         (m197 cyrB x2208).bind fun x2259 =>
                         if x2259 = true then
                          some (3, 1)
                         else
                          (m196 x2208 33 126).bind fun x2262 =>
                          if x2262 = true then
                           some (0, 5)
                          else
                           some (0, 0)
theorem m177_fold : m177 = n177 := rfl

attribute [local irreducible] latB grkB cyrB win
theorem m191_eq (c l h : Int) : m191 c l h = some (decide (l ≤ c ∧ c ≤ h)) := by
  unfold m191
  by_cases h1 : l ≤ c <;> simp [h1]
theorem m196_eq (c l h : Int) : m196 c l h = some (decide (l ≤ c ∧ c ≤ h)) := by
  unfold m196
  by_cases h1 : l ≤ c <;> simp [h1]
def L1 (x : Int) : Prop := (65 ≤ x ∧ x ≤ 90) ∨ (97 ≤ x ∧ x ≤ 122) ∨ x = 383 ∨ (64257 ≤ x ∧ x ≤ 64258) ∨ x ∈ win latB
def L2 (x : Int) : Prop := (x ≠ 930 ∧ 913 ≤ x ∧ x ≤ 937) ∨ (945 ≤ x ∧ x ≤ 969) ∨ x ∈ win grkB
def L3 (x : Int) : Prop := (1040 ≤ x ∧ x ≤ 1103) ∨ x ∈ win cyrB
def Mk (x : Int) : Prop := x ≠ 773 ∧ x ≠ 777 ∧ (x = 803 ∨ x = 807 ∨ x = 808 ∨ (768 ≤ x ∧ x ≤ 780))
def Ch (x : Int) : Prop := L1 x ∨ L2 x ∨ L3 x ∨ Mk x ∨ (32 ≤ x ∧ x ≤ 126) ∨ x = 160 ∨ x = 178 ∨ x = 179 ∨ x = 185
instance (x : Int) : Decidable (L1 x) := by unfold L1; infer_instance
instance (x : Int) : Decidable (L2 x) := by unfold L2; infer_instance
instance (x : Int) : Decidable (L3 x) := by unfold L3; infer_instance
instance (x : Int) : Decidable (Mk x) := by unfold Mk; infer_instance
instance (x : Int) : Decidable (Ch x) := by unfold Ch; infer_instance
def wide (x : Int) : Int := if 65281 ≤ x ∧ x ≤ 65374 then x - 65248 else x
def hasC (x : Int) : Bool := decide (Ch (wide x))

theorem ite_or {α : Type} {p q : Prop} [Decidable p] [Decidable q] {A B : α} : (if p then A else if q then A else B) = if p ∨ q then A else B := by
  by_cases h : p
  · rw [if_pos h, if_pos (.inl h)]
  · rw [if_neg h]
    by_cases h2 : q
    · rw [if_pos h2, if_pos (.inr h2)]
    · rw [if_neg h2, if_neg (by rintro (h' | h') <;> contradiction)]
theorem ite_iff {α : Type} {p q : Prop} [Decidable p] [Decidable q] {A B C : α} (h : p ↔ q) (k : B = C) : (if p then A else B) = if q then A else C := by
  subst k
  by_cases hp : p
  · rw [if_pos hp, if_pos (h.1 hp)]
  · rw [if_neg hp, if_neg (fun hq => hp (h.2 hq))]
theorem m192_eq (c : Nat) (hc : c ≤ 65535) (hne : c ≠ 65533) : m192 (c : Int) = some (if L1 c then 1 else if L2 c then 2 else if L3 c then 3 else 0) := by
  have e1 := lat190 c hc hne
  have e2 := grk190 c hc hne
  have e3 := cyr190 c hc hne
  have l1 : L1 c ↔ ((65 ≤ (c : Int) ∧ (c : Int) ≤ 90) ∨ (97 ≤ (c : Int) ∧ (c : Int) ≤ 122) ∨ (c : Int) = 383 ∨ (64257 ≤ (c : Int) ∧ (c : Int) ≤ 64258) ∨ decide ((c : Int) ∈ win latB) = true) := by unfold L1; simp only [decide_eq_true_eq]
  have l2 : L2 c ↔ (((c : Int) ≠ 930 ∧ 913 ≤ (c : Int) ∧ (c : Int) ≤ 937) ∨ (945 ≤ (c : Int) ∧ (c : Int) ≤ 969) ∨ decide ((c : Int) ∈ win grkB) = true) := by unfold L2; simp only [decide_eq_true_eq]
  have l3 : L3 c ↔ ((1040 ≤ (c : Int) ∧ (c : Int) ≤ 1103) ∨ decide ((c : Int) ∈ win cyrB) = true) := by unfold L3; simp only [decide_eq_true_eq]
  have hw : IntKind.i32.wrap (c : Int) = (c : Int) := w32 (by omega)
  generalize decide ((c : Int) ∈ win latB) = p1 at e1 l1
  generalize decide ((c : Int) ∈ win grkB) = p2 at e2 l2
  generalize decide ((c : Int) ∈ win cyrB) = p3 at e3 l3
  rw [m192_fold]
  unfold n192
  rw [m191_eq, m191_eq, m191_eq, hw, e1, e2, e3, m191_eq, m191_eq, m191_eq]
  simp only [Option.bind_some, ite_or, decide_eq_true_eq]
  clear e1 e2 e3
  rw [apply_ite some, apply_ite some, apply_ite some]
  refine ite_iff (by rw [l1]) ?_
  by_cases z : (c : Int) = 930
  · rw [if_pos z]
    refine ite_iff ?_ (ite_iff l3.symm rfl)
    rw [l2]
    simp [z]
  · rw [if_neg z]
    refine ite_iff ?_ (ite_iff l3.symm rfl)
    rw [l2]
    simp [z, or_assoc]
end Go.WK.S
