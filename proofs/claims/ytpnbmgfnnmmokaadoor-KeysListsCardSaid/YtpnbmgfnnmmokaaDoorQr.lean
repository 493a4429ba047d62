/-
  Plain: what bytes are read as (keys); both ways to read tell the same formed values; a key is read as its value.
-/
import Derived.Test.YtpnbmgfnnmmokaaDoorQk
set_option linter.unusedVariables false
namespace Go.Proofs.YtpnbmgfnnmmokaaDoor
open Go.RowKit

/-- The text that bytes begin with, and what is behind. -/
def getB : List Int → Option (List Int × List Int)
  | [] => none
  | [_] => none
  | c :: d :: r =>
    if c = 0 then
      if d = 0 then some ([], r)
      else if d = 255 then match getB r with
        | none => none
        | some (s, t) => some (0 :: s, t)
      else none
    else match getB (d :: r) with
      | none => none
      | some (s, t) => some (c :: s, t)
/-- The program's way (A) stops at more than 60 bytes. -/
def getG (A : Bool) (b : List Int) : Option (List Int × List Int) := match getB b with
  | none => none
  | some (s, t) => if A = true ∧ 60 < s.length then none else some (s, t)
/-- The members of an Array, an Object (ob), at most n. -/
def memG (A : Bool) (f : List Int → Option (JV × List Int)) (ob : Bool) : Nat → List Int → Option (List ByteArray × List JV × List Int)
  | 0, b => if A = true then some ([], [], b) else none
  | _ + 1, [] => none
  | n + 1, c :: r =>
    if c = 0 then some ([], [], r)
    else if ob = true then
      if c ≠ 1 then none
      else match getG A r with
        | none => none
        | some (s, t) => match f t with
          | none => none
          | some (x, u) => match memG A f ob n u with
            | none => none
            | some (ns, is, z) => some (strOfNums s :: ns, x :: is, z)
    else match f (c :: r) with
      | none => none
      | some (x, u) => match memG A f ob n u with
        | none => none
        | some (ns, is, z) => some (ns, x :: is, z)
/-- The value that bytes begin with, at most so deep, and what is behind. -/
def valG (A : Bool) : Nat → List Int → Option (JV × List Int)
  | 0, _ => none
  | _ + 1, [] => none
  | l + 1, c :: r =>
    if c < 1 ∨ 7 < c then none
    else if c = 4 then if r.length < 8 then none else some (.mk 3 (num (r.take 8) 0 - 9223372036854775808) ⟨#[]⟩ [] [], r.drop 8)
    else if c = 5 then match getG A r with
      | none => none
      | some (s, t) => some (.mk 4 0 (strOfNums s) [] [], t)
    else if c = 6 ∨ c = 7 then match memG A (valG A l) (decide (c = 7)) 25 r with
      | none => none
      | some (ns, is, t) => some (.mk (c - 1) 0 ⟨#[]⟩ ns is, t)
    else some (.mk (c - 1) 0 ⟨#[]⟩ [] [], r)

theorem strNums_size (l : List Int) : (strOfNums l).size = l.length := by
  unfold strOfNums
  simp [ByteArray.size]
theorem memB_len {f : List Int → Option (JV × List Int)} {ob : Bool} : ∀ (n : Nat) (b : List Int) (ns : List ByteArray) (is : List JV) (z : List Int), memG false f ob n b = some (ns, is, z) → is.length < n
  | 0, b, ns, is, z, h => by simp [memG] at h
  | n + 1, [], ns, is, z, h => by simp [memG] at h
  | n + 1, c :: r, ns, is, z, h => by
    rw [memG] at h
    split at h
    · simp at h; rw [h.2.1]; simp
    · split at h
      · split at h
        · cases h
        · split at h
          · cases h
          · split at h
            · cases h
            · split at h
              · cases h
              · rename_i h5
                have := memB_len n _ _ _ _ h5
                simp at h; rw [← h.2.1]; simp; omega
      · split at h
        · cases h
        · split at h
          · cases h
          · rename_i h5
            have := memB_len n _ _ _ _ h5
            simp at h; rw [← h.2.1]; simp; omega
theorem getG_false (b : List Int) : getG false b = getB b := by
  unfold getG
  cases getB b with
  | none => rfl
  | some p => simp
theorem getG_true {b s t : List Int} (h : s.length ≤ 60) : getG true b = some (s, t) ↔ getB b = some (s, t) := by
  unfold getG
  cases getB b with
  | none => simp
  | some p =>
    obtain ⟨s', t'⟩ := p
    simp only [true_and]
    constructor
    · intro h'
      split at h'
      · cases h'
      · exact h'
    · intro h'
      injection h' with h'
      injection h' with h1 h2
      subst h1 h2
      rw [if_neg (by omega)]
theorem mem_both {f f' : List Int → Option (JV × List Int)} (hf : ∀ b v r, FormedR v → (f b = some (v, r) ↔ f' b = some (v, r))) (ob : Bool) : ∀ (n : Nat) (b : List Int) (ns : List ByteArray) (is : List JV) (z : List Int), FormedRAll is → (∀ s ∈ ns, s.size ≤ 60) → is.length < n →
    (memG true f ob n b = some (ns, is, z) ↔ memG false f' ob n b = some (ns, is, z))
  | 0, b, ns, is, z, _, _, h => by omega
  | n + 1, [], ns, is, z, _, _, _ => by simp [memG]
  | n + 1, c :: r, ns, is, z, hF, hs, hl => by
    rw [memG, memG]
    by_cases h0 : c = 0
    · rw [if_pos h0, if_pos h0]
    · rw [if_neg h0, if_neg h0]
      by_cases ho : ob = true
      · rw [if_pos ho, if_pos ho]
        by_cases h1 : c ≠ 1
        · rw [if_pos h1, if_pos h1]
        · rw [if_neg h1, if_neg h1]
          constructor
          · intro h
            split at h
            · cases h
            · rename_i s t hg
              split at h
              · cases h
              · rename_i x u hx
                split at h
                · cases h
                · rename_i ns' is' z' hm
                  injection h with h
                  injection h with h2 h3
                  injection h3 with h3 h4
                  subst h2 h3 h4
                  have hsz := hs _ (List.mem_cons_self)
                  rw [strNums_size] at hsz
                  rw [getG_true hsz, ← getG_false] at hg
                  rw [hf _ _ _ hF.1] at hx
                  rw [mem_both hf ob n _ _ _ _ hF.2 (fun y hy => hs y (List.mem_cons_of_mem _ hy)) (by simpa using hl)] at hm
                  simp only [hg, hx, hm]
          · intro h
            split at h
            · cases h
            · rename_i s t hg
              split at h
              · cases h
              · rename_i x u hx
                split at h
                · cases h
                · rename_i ns' is' z' hm
                  injection h with h
                  injection h with h2 h3
                  injection h3 with h3 h4
                  subst h2 h3 h4
                  have hsz := hs _ (List.mem_cons_self)
                  rw [strNums_size] at hsz
                  rw [getG_false, ← getG_true hsz] at hg
                  rw [← hf _ _ _ hF.1] at hx
                  rw [← mem_both hf ob n _ _ _ _ hF.2 (fun y hy => hs y (List.mem_cons_of_mem _ hy)) (by simpa using hl)] at hm
                  simp only [hg, hx, hm]
      · rw [if_neg ho, if_neg ho]
        constructor
        · intro h
          split at h
          · cases h
          · rename_i x u hx
            split at h
            · cases h
            · rename_i ns' is' z' hm
              injection h with h
              injection h with h2 h3
              injection h3 with h3 h4
              subst h2 h3 h4
              rw [hf _ _ _ hF.1] at hx
              rw [mem_both hf ob n _ _ _ _ hF.2 hs (by simpa using hl)] at hm
              simp only [hx, hm]
        · intro h
          split at h
          · cases h
          · rename_i x u hx
            split at h
            · cases h
            · rename_i ns' is' z' hm
              injection h with h
              injection h with h2 h3
              injection h3 with h3 h4
              subst h2 h3 h4
              rw [← hf _ _ _ hF.1] at hx
              rw [← mem_both hf ob n _ _ _ _ hF.2 hs (by simpa using hl)] at hm
              simp only [hx, hm]
theorem formedR_parts {k n : Int} {s : ByteArray} {ns : List ByteArray} {is : List JV} (h : FormedR (.mk k n s ns is)) : s.size ≤ 60 ∧ (∀ t ∈ ns, t.size ≤ 60) ∧ FormedRAll is ∧ is.length ≤ 24 := by
  rw [FormedR] at h
  obtain ⟨⟨h0, h1, h2, h3, h4, h5, h6⟩, hn, hi⟩ := h
  refine ⟨h4.1, fun t ht => ?_, hi, ?_⟩
  · obtain ⟨i, hi', rfl⟩ := List.mem_iff_getElem.1 ht
    exact (hn i hi').1.1
  · by_cases hk : k < 5
    · have := h5 hk; omega
    · exact (h6 (by omega)).1
/-- Both ways to read tell the same formed values. -/
theorem val_both : ∀ (l : Nat) (b : List Int) (v : JV) (r : List Int), FormedR v → (valG true l b = some (v, r) ↔ valG false l b = some (v, r))
  | 0, b, v, r, _ => by simp [valG]
  | l + 1, [], v, r, _ => by simp [valG]
  | l + 1, c :: rest, v, r, hF => by
    rw [valG, valG]
    by_cases h0 : c < 1 ∨ 7 < c
    · rw [if_pos h0, if_pos h0]
    · rw [if_neg h0, if_neg h0]
      by_cases h4 : c = 4
      · rw [if_pos h4, if_pos h4]
      · rw [if_neg h4, if_neg h4]
        by_cases h5 : c = 5
        · rw [if_pos h5, if_pos h5]
          constructor
          · intro h
            split at h
            · cases h
            · rename_i s t hg
              injection h with h
              injection h with h2 h3
              subst h2 h3
              have := (formedR_parts hF).1
              rw [strNums_size] at this
              rw [getG_true this, ← getG_false] at hg
              simp only [hg]
          · intro h
            split at h
            · cases h
            · rename_i s t hg
              injection h with h
              injection h with h2 h3
              subst h2 h3
              have := (formedR_parts hF).1
              rw [strNums_size] at this
              rw [getG_false, ← getG_true this] at hg
              simp only [hg]
        · rw [if_neg h5, if_neg h5]
          by_cases h6 : c = 6 ∨ c = 7
          · rw [if_pos h6, if_pos h6]
            have hm := mem_both (val_both l) (decide (c = 7)) 25 rest
            constructor
            · intro h
              split at h
              · cases h
              · rename_i ns is t hg
                injection h with h
                injection h with h2 h3
                subst h2 h3
                obtain ⟨_, g2, g3, g4⟩ := formedR_parts hF
                rw [hm ns is t g3 g2 (by omega)] at hg
                simp only [hg]
            · intro h
              split at h
              · cases h
              · rename_i ns is t hg
                injection h with h
                injection h with h2 h3
                subst h2 h3
                obtain ⟨_, g2, g3, g4⟩ := formedR_parts hF
                rw [← hm ns is t g3 g2 (by omega)] at hg
                simp only [hg]
          · rw [if_neg h6, if_neg h6]

/-- The bytes of a text as numbers. -/
def numsOf (s : ByteArray) : List Int := s.data.toList.map fun c => (c.toNat : Int)
theorem str_nums (s : ByteArray) : strOfNums (numsOf s) = s := by
  unfold strOfNums numsOf
  cases s
  congr 1
  rw [List.map_map]
  apply Array.ext'
  show List.map _ _ = _
  exact (List.map_congr_left (g := id) (fun c _ => by simp)).trans (List.map_id _)
theorem getB_esc (more : List Int) : ∀ l : List UInt8, getB (escL l ++ [0, 0] ++ more) = some (l.map (fun c => (c.toNat : Int)), more)
  | [] => by simp [escL, getB]
  | c :: l => by
    have ih := getB_esc more l
    rw [escL]
    by_cases h0 : c = 0
    · rw [if_pos h0, List.append_assoc, List.append_assoc]
      rw [List.append_assoc] at ih
      show getB (0 :: 255 :: (escL l ++ ([0, 0] ++ more))) = _
      rw [getB, if_pos rfl, if_neg (by omega), if_pos rfl, ih, h0]
      rfl
    · rw [if_neg h0, List.append_assoc, List.append_assoc]
      rw [List.append_assoc] at ih
      rw [u8_zero] at h0
      have hne : escL l ++ ([0, 0] ++ more) ≠ [] := by simp
      obtain ⟨d, r, hd⟩ := List.exists_cons_of_ne_nil hne
      show getB ((c.toNat : Int) :: (escL l ++ ([0, 0] ++ more))) = _
      rw [hd] at ih ⊢
      rw [getB, if_neg (by omega), ih]
      rfl
theorem getB_text (s : ByteArray) (more : List Int) : getB (textK s ++ more) = some (numsOf s, more) := getB_esc more _
mutual
/-- A key is read as its value. -/
theorem val_key : ∀ (j : JV) (left : Nat) (more : List Int), FormedP j left → NumsOK j → valG false left (keyJ j ++ more) = some (j, more)
  | .mk k n s ns is, left, more, hf, hn => by
    rw [FormedP] at hf
    obtain ⟨h0, ⟨a0, a1, a2, a3, a4, a5, a6⟩, hnm, hi⟩ := hf
    rw [numsOK_iff] at hn
    obtain ⟨l, rfl⟩ : ∃ l, left = l + 1 := ⟨left - 1, by omega⟩
    rw [keyJ, List.cons_append, valG, if_neg (by omega)]
    have empty : k ≠ 4 → s = ⟨#[]⟩ := fun h4 => empty_same (a3 h4) (by rw [ByteArray.toList_eq])
    have none5 : k < 5 → ns = [] ∧ is = [] := fun h5 => ⟨List.eq_nil_of_length_eq_zero (a5 h5).2, List.eq_nil_of_length_eq_zero (a5 h5).1⟩
    by_cases h3 : k = 3
    · subst h3
      obtain ⟨rfl, rfl⟩ := none5 (by omega)
      have e := empty (by omega)
      subst e
      have hl : (be64 (ordN n) ++ more).take 8 = be64 (ordN n) := List.take_left' rfl
      have hd : (be64 (ordN n) ++ more).drop 8 = more := List.drop_left' rfl
      rw [if_pos (by omega), if_pos rfl, if_neg (by rw [List.length_append, be64_len]; omega), hl, hd, num_be64 _ (by unfold ordN; omega) (by unfold ordN; omega)]
      unfold ordN
      rw [show n + 9223372036854775808 - 9223372036854775808 = n by omega]
    · rw [if_neg h3, if_neg (show ¬ k + 1 = 4 by omega)]
      have en := a2 h3
      subst en
      by_cases h4 : k = 4
      · subst h4
        obtain ⟨rfl, rfl⟩ := none5 (by omega)
        rw [if_pos (show (4 : Int) + 1 = 5 by omega), if_pos rfl, getG_false, getB_text, ]
        simp only [str_nums]
      · have e := empty h4
        subst e
        rw [if_neg (show ¬ k + 1 = 5 by omega), if_neg h4]
        by_cases h5 : k = 5 ∨ k = 6
        · have h65 : k + 1 = 6 ∨ k + 1 = 7 := by omega
          rw [if_pos h65, if_pos h5]
          have hb : decide (k + 1 = 7) = decide (k = 6) := by
            congr 1
            apply propext
            omega
          have hl := a6 (by omega)
          have hm := mem_key (decide (k = 6)) is ns l 25 more hi hn.2 (fun h => by
            have h6 : k = 6 := by simpa using h
            exact hl.2.1 h6) (fun h => by
            have h6 : k ≠ 6 := by simpa using h
            exact hl.2.2 h6) (by omega)
          rw [hb, hm]
          simp only
          rw [show k + 1 - 1 = k by omega]
        · rw [if_neg (show ¬ (k + 1 = 6 ∨ k + 1 = 7) by omega), if_neg h5]
          obtain ⟨rfl, rfl⟩ := none5 (by omega)
          rw [show k + 1 - 1 = k by omega, List.nil_append]
theorem mem_key (ob : Bool) : ∀ (is : List JV) (ns : List ByteArray) (left n : Nat) (more : List Int), FormedAll is left → (∀ x ∈ is, NumsOK x) → (ob = true → ns.length = is.length) → (ob = false → ns.length = 0) → is.length < n →
    memG false (valG false left) ob n (keyRows ob is ns ++ [0] ++ more) = some (ns, is, more)
  | [], ns, left, n, more, _, _, h1, h2, hl => by
    have : ns = [] := List.eq_nil_of_length_eq_zero (by cases ob; exact h2 rfl; exact h1 rfl)
    subst this
    obtain ⟨m, rfl⟩ : ∃ m, n = m + 1 := ⟨n - 1, by omega⟩
    rw [keyRows]
    show memG false (valG false left) ob (m + 1) (0 :: more) = _
    rw [memG, if_pos rfl]
  | x :: xs, ns, left, n, more, hf, hn, h1, h2, hl => by
    obtain ⟨m, rfl⟩ : ∃ m, n = m + 1 := ⟨n - 1, by omega⟩
    have hx := val_key x left (keyRows ob xs ns.tail ++ [0] ++ more) hf.1 (hn x (by simp))
    have hr := mem_key ob xs ns.tail left m more hf.2 (fun z hz => hn z (by simp [hz])) (fun h => by have := h1 h; simp at this ⊢; omega) (fun h => by have := h2 h; simp; omega) (by simpa using hl)
    rw [keyRows]
    cases ob with
    | true =>
      rw [if_pos rfl]
      rcases ns with _ | ⟨a, ns⟩
      · have := h1 rfl; simp at this
      · show memG false (valG false left) true (m + 1) (1 :: (textK a ++ keyJ x ++ keyRows true xs ns ++ [0] ++ more)) = _
        rw [memG, if_neg (by omega), if_pos rfl, if_neg (by omega), getG_false]
        rw [List.tail_cons] at hr
        have e : textK a ++ keyJ x ++ keyRows true xs ns ++ [0] ++ more = textK a ++ (keyJ x ++ (keyRows true xs ns ++ [0] ++ more)) := by simp [List.append_assoc]
        rw [List.tail_cons] at hx
        rw [e, getB_text]
        simp only [hx, hr, str_nums]
    | false =>
      rw [if_neg (by simp), List.nil_append]
      have hns : ns = [] := List.eq_nil_of_length_eq_zero (h2 rfl)
      subst hns
      obtain ⟨c, r, e, hc⟩ := keyJ_head x _ hf.1
      rw [List.append_assoc, List.append_assoc]
      rw [List.append_assoc] at hx hr
      rw [e] at hx ⊢
      rw [List.cons_append] at hx ⊢
      rw [memG, if_neg (by omega), if_neg (by simp), hx]
      simp only
      rw [hr]
      rfl
end
/-- What Read answers: the value, how many bytes, the error. -/
def zeroK : JV := .mk 0 0 ⟨#[]⟩ [] []
open Classical in
noncomputable def readX (b : List Int) : JV × Nat × Int := match valG false 6 b with
  | none => (zeroK, 0, 11)
  | some (v, r) => if FormedP v 6 then (v, b.length - r.length, 0) else (zeroK, 0, 11)
theorem formedR_of {j : JV} {left : Nat} (h : FormedP j left) : FormedR j := ((formed_both j left).1 h).1
/-- Either way to read. -/
theorem readX_of (A : Bool) {b r : List Int} {v : JV} (h : valG A 6 b = some (v, r)) (hf : FormedP v 6) : readX b = (v, b.length - r.length, 0) := by
  have h' : valG false 6 b = some (v, r) := by
    cases A
    · exact h
    · exact (val_both 6 b v r (formedR_of hf)).1 h
  unfold readX
  rw [h']
  simp only [if_pos hf]
theorem readX_no (A : Bool) {b : List Int} (h : ∀ v r, valG A 6 b = some (v, r) → ¬ FormedP v 6) : readX b = (zeroK, 0, 11) := by
  unfold readX
  cases hv : valG false 6 b with
  | none => rfl
  | some p =>
    obtain ⟨v, r⟩ := p
    by_cases hf : FormedP v 6
    · have h' : valG A 6 b = some (v, r) := by
        cases A
        · exact hv
        · exact (val_both 6 b v r (formedR_of hf)).2 hv
      exact absurd hf (h v r h')
    · simp only [if_neg hf]
theorem readX_key {j : JV} (hf : FormedP j 6) (hn : NumsOK j) (more : List Int) : readX (keyJ j ++ more) = (j, (keyJ j).length, 0) := by
  rw [readX_of false (val_key j 6 more hf hn) hf, List.length_append, Nat.add_sub_cancel]
end Go.Proofs.YtpnbmgfnnmmokaaDoor
