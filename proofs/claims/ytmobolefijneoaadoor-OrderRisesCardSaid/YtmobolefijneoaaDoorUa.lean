/-
  UTF-8, plain: a text is its code points' bytes just where it is valid.
-/
import Derived.Lib.MapLaws
import Derived.Lib.ValidLaws
import Derived.Lib.TrimUEq
import Derived.Laws.Cover4
import Derived.Laws.IdiomStrings
import Derived.Test.YtmobolefijneoaaDoorKit
set_option linter.unusedVariables false
namespace Go.Proofs.YtmobolefijneoaaDoor
open Go.Lib

theorem byte_of {n : Nat} {b : UInt8} (h : n = b.toNat) : UInt8.ofNat n = b := by subst h; exact UInt8.ofNat_toNat
theorem enc_two {c : Nat} (h : Utf8.valid (c : Int) = true) (h1 : 128 ≤ c) (h2 : c < 2048) : (Utf8.encode (c : Int)).data.toList = [UInt8.ofNat (192 + c / 64), UInt8.ofNat (128 + c % 64)] := by
  unfold Utf8.encode
  simp only [h, if_true, Int.toNat_natCast]
  rw [if_neg (by omega), if_pos (by omega)]
theorem enc_one {c : Nat} (h2 : c < 128) : (Utf8.encode (c : Int)).data.toList = [UInt8.ofNat c] := by
  have h : Utf8.valid (c : Int) = true := by simp [Utf8.valid]; omega
  unfold Utf8.encode
  simp only [h, if_true, Int.toNat_natCast]
  rw [if_pos (by omega)]
theorem enc_three {c : Nat} (h : Utf8.valid (c : Int) = true) (h1 : 2048 ≤ c) (h2 : c < 65536) : (Utf8.encode (c : Int)).data.toList = [UInt8.ofNat (224 + c / 4096), UInt8.ofNat (128 + c / 64 % 64), UInt8.ofNat (128 + c % 64)] := by
  unfold Utf8.encode
  simp only [h, if_true, Int.toNat_natCast]
  rw [if_neg (by omega), if_neg (by omega), if_pos (by omega)]
theorem enc_four {c : Nat} (h : Utf8.valid (c : Int) = true) (h1 : 65536 ≤ c) : (Utf8.encode (c : Int)).data.toList = [UInt8.ofNat (240 + c / 262144), UInt8.ofNat (128 + c / 4096 % 64), UInt8.ofNat (128 + c / 64 % 64), UInt8.ofNat (128 + c % 64)] := by
  unfold Utf8.encode
  simp only [h, if_true, Int.toNat_natCast]
  rw [if_neg (by omega), if_neg (by omega), if_neg (by omega)]
theorem valid_of {c : Nat} (h : c < 55296 ∨ (57344 ≤ c ∧ c ≤ 1114111)) : Utf8.valid (c : Int) = true := by simp [Utf8.valid]; omega

/-- What is decoded without an error has just those bytes. -/
theorem enc_dec (l : List UInt8) (hne : l ≠ []) (h : ¬ ((decodeL l).1 = 65533 ∧ (decodeL l).2 = 1)) : (Utf8.encode ((decodeL l).1 : Int)).data.toList = l.take (decodeL l).2 ∧ (decodeL l).2 ≤ l.length := by
  refine ⟨?_, decodeL_le l hne⟩
  rcases l with _ | ⟨x0, l⟩
  · exact absurd rfl hne
  have b0 := x0.toNat_lt
  rw [decodeL_N] at h ⊢
  unfold decodeN at h ⊢
  simp only [List.getD_cons_zero, List.getD_cons_succ] at h ⊢
  by_cases h0 : x0.toNat < 128
  · rw [if_pos h0] at h ⊢
    rw [enc_one h0, byte_of rfl]; rfl
  rw [if_neg h0] at h ⊢
  split at h
  · rename_i h1
    rw [if_pos h1] at ⊢
    split at h
    · rename_i h2
      rw [if_pos h2]
      rcases l with _ | ⟨x1, l⟩
      · exact absurd h1.2.1 (by simp)
      simp only [List.getD_cons_zero] at h1 h2 ⊢
      rw [enc_two (valid_of (by omega)) (by omega) (by omega), byte_of (b := x0) (by omega), byte_of (b := x1) (by omega)]; rfl
    · exact absurd ⟨rfl, rfl⟩ h
  rename_i h1
  rw [if_neg h1]
  split at h
  · rename_i h2
    rw [if_pos h2]
    split at h
    · rename_i h3
      rw [if_pos h3]
      rcases l with _ | ⟨x1, _ | ⟨x2, l⟩⟩
      · exact absurd h2.2.1.1 (by simp)
      · exact absurd h2.2.2.1 (by simp)
      simp only [List.getD_cons_zero, List.getD_cons_succ] at h2 h3 ⊢
      rw [enc_three (valid_of (by omega)) (by omega) (by omega), byte_of (b := x0) (by omega), byte_of (b := x1) (by omega), byte_of (b := x2) (by omega)]; rfl
    · exact absurd ⟨rfl, rfl⟩ h
  rename_i h2
  rw [if_neg h2]
  split at h
  · rename_i h3
    rw [if_pos h3]
    split at h
    · rename_i h4
      rw [if_pos h4]
      rcases l with _ | ⟨x1, _ | ⟨x2, _ | ⟨x3, l⟩⟩⟩
      · exact absurd h3.2.1.1 (by simp)
      · exact absurd h3.2.2.1.1 (by simp)
      · exact absurd h3.2.2.2.1 (by simp)
      simp only [List.getD_cons_zero, List.getD_cons_succ] at h3 h4 ⊢
      rw [enc_four (valid_of (by omega)) (by omega), byte_of (b := x0) (by omega), byte_of (b := x1) (by omega), byte_of (b := x2) (by omega), byte_of (b := x3) (by omega)]; rfl
    · exact absurd ⟨rfl, rfl⟩ h
  · exact absurd ⟨rfl, rfl⟩ h

/-- The code points of the bytes l. -/
def codesL : Nat → List UInt8 → List Int
  | 0, _ => []
  | n + 1, l => if l = [] then [] else ((decodeL l).1 : Int) :: codesL n (l.drop (decodeL l).2)
/-- Their bytes. -/
def flatL (ns : List Int) : List UInt8 := ns.flatMap fun n => (Utf8.encode n).data.toList
theorem flatL_cons (n : Int) (ns : List Int) : flatL (n :: ns) = (Utf8.encode n).data.toList ++ flatL ns := by simp [flatL]
theorem fold_flat : ∀ (ns : List Int) (s : ByteArray), (ns.foldl (fun r n => r ++ Utf8.encode n) s).data.toList = s.data.toList ++ flatL ns
  | [], s => by simp [flatL]
  | n :: ns, s => by rw [List.foldl_cons, fold_flat ns, flatL_cons]; simp
theorem runesBytes_flat (ns : List Int) : (runesBytes ns).data.toList = flatL ns := by
  unfold runesBytes; rw [fold_flat]; simp
theorem enc_err : (Utf8.encode (65533 : Int)).data.toList = [239, 191, 189] := by decide
theorem codes_valid : ∀ (n : Nat) (l : List UInt8), l.length ≤ n → (validD l = true → flatL (codesL n l) = l) ∧ (validD l = false → l.length < (flatL (codesL n l)).length) ∧ l.length ≤ (flatL (codesL n l)).length
  | 0, l, h => by
    have : l = [] := List.eq_nil_of_length_eq_zero (by omega)
    subst this
    exact ⟨fun _ => rfl, (fun h => by cases h), Nat.zero_le _⟩
  | n + 1, l, h => by
    by_cases hne : l = []
    · subst hne
      exact ⟨(fun _ => by simp [codesL, flatL]), (fun h => by cases h), Nat.zero_le _⟩
    · have hw := decodeL_width l
      have hpos : 0 < l.length := List.length_pos_iff.2 hne
      obtain ⟨i1, i2, i3⟩ := codes_valid n (l.drop (decodeL l).2) (by rw [List.length_drop]; omega)
      rw [codesL, if_neg hne, flatL_cons, validD_step l hne]
      by_cases he : (decodeL l).1 = 65533 ∧ (decodeL l).2 = 1
      · rw [if_pos he]
        refine ⟨(fun h => by cases h), (fun _ => ?_), ?_⟩
        all_goals
          rw [he.1, List.length_append, show (Utf8.encode ((65533 : Nat) : Int)).data.toList = [239, 191, 189] from enc_err]
          rw [List.length_drop, he.2] at i3
          rw [he.2]
          simp only [List.length_cons, List.length_nil]
          omega
      · rw [if_neg he]
        obtain ⟨e1, e2⟩ := enc_dec l hne he
        rw [e1]
        refine ⟨fun hv => ?_, fun hv => ?_, ?_⟩
        · rw [i1 hv, List.take_append_drop]
        · have := i2 hv
          rw [List.length_append, List.length_take, Nat.min_eq_left e2]
          rw [List.length_drop] at this
          omega
        · rw [List.length_append, List.length_take, Nat.min_eq_left e2]
          rw [List.length_drop] at i3
          omega
/-- A text is its code points' bytes just where it is valid. -/
theorem codes_iff (l : List UInt8) : decide (flatL (codesL l.length l) = l) = validD l := by
  obtain ⟨h1, h2, _⟩ := codes_valid l.length l (Nat.le_refl _)
  cases hv : validD l with
  | true => exact decide_eq_true (h1 hv)
  | false => exact decide_eq_false fun e => by have := h2 hv; rw [e] at this; omega
theorem codes_len : ∀ (n : Nat) (l : List UInt8), (codesL n l).length ≤ n
  | 0, _ => Nat.le_refl _
  | n + 1, l => by
    rw [codesL]; split
    · exact Nat.zero_le _
    · simp only [List.length_cons]; have := codes_len n (l.drop (decodeL l).2); omega
theorem runesFrom_codes (s : ByteArray) : ∀ (n pos : Nat) (acc : Array Value), (Conv.runesFrom s n pos acc).toList = acc.toList ++ (codesL n (s.data.toList.drop pos)).map (Value.int .i32)
  | 0, pos, acc => by simp [Conv.runesFrom, codesL]
  | n + 1, pos, acc => by
    rw [Conv.runesFrom]
    have hs : s.size = s.data.toList.length := size_eq s
    by_cases h : pos < s.size
    · rw [if_pos h]
      have hne : s.data.toList.drop pos ≠ [] := by
        intro e
        have := congrArg List.length e
        rw [List.length_drop] at this
        simp only [List.length_nil] at this
        omega
      rw [codesL, if_neg hne, decodeL_drop]
      simp only
      rw [runesFrom_codes s n]
      rw [List.drop_drop]
      simp
    · rw [if_neg h, codesL, if_pos (List.drop_eq_nil_of_le (by omega))]
      simp
end Go.Proofs.YtmobolefijneoaaDoor
