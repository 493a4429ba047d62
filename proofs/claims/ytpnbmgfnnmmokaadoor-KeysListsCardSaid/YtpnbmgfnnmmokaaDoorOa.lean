/-
  Plain order of numbers and texts; the contracts of cmp.Compare, of munimentref03.lengths and texts.
-/
import Derived.Test.YtpnbmgfnnmmokaaDoorWg
import Derived.LoopTactic
set_option linter.unusedVariables false
namespace Go.Proofs.YtpnbmgfnnmmokaaDoor
open Go.RowKit

def cmpI (a b : Int) : Int := if a < b then -1 else if b < a then 1 else 0
def cmpL : List UInt8 → List UInt8 → Int
  | [], [] => 0
  | [], _ :: _ => -1
  | _ :: _, [] => 1
  | a :: x, b :: y => if a < b then -1 else if b < a then 1 else cmpL x y
def cmpS (a b : ByteArray) : Int := cmpL a.data.toList b.data.toList
theorem cmpL_less : ∀ (x y : List UInt8), Op.bytesLess x y = true ↔ cmpL x y = -1
  | [], [] => by simp [Op.bytesLess, cmpL]
  | [], _ :: _ => by simp [Op.bytesLess, cmpL]
  | _ :: _, [] => by simp [Op.bytesLess, cmpL]
  | a :: x, b :: y => by
    rw [Op.bytesLess, cmpL]
    by_cases h : a < b
    · simp [h]
    · rw [if_neg h]
      by_cases h2 : b < a
      · have : ¬ a = b := fun e => by rw [e] at h2; exact absurd h2 (UInt8.lt_irrefl _)
        simp [h, h2, this]
      · have e : a = b := UInt8.le_antisymm (UInt8.not_lt.1 h2) (UInt8.not_lt.1 h)
        rw [if_neg h2, ← cmpL_less x y]
        simp [e]
theorem cmpL_zero : ∀ (x y : List UInt8), cmpL x y = 0 ↔ x = y
  | [], [] => by simp [cmpL]
  | [], _ :: _ => by simp [cmpL]
  | _ :: _, [] => by simp [cmpL]
  | a :: x, b :: y => by
    rw [cmpL]
    by_cases h : a < b
    · have : ¬ a = b := fun e => by rw [e] at h; exact absurd h (UInt8.lt_irrefl _)
      simp [h, this]
    · rw [if_neg h]
      by_cases h2 : b < a
      · have : ¬ a = b := fun e => by rw [e] at h2; exact absurd h2 (UInt8.lt_irrefl _)
        simp [h2, this]
      · have e : a = b := UInt8.le_antisymm (UInt8.not_lt.1 h2) (UInt8.not_lt.1 h)
        rw [if_neg h2, cmpL_zero x y]
        simp [e]
theorem cmpL_range : ∀ (x y : List UInt8), cmpL x y = -1 ∨ cmpL x y = 0 ∨ cmpL x y = 1
  | [], [] => by simp [cmpL]
  | [], _ :: _ => by simp [cmpL]
  | _ :: _, [] => by simp [cmpL]
  | a :: x, b :: y => by
    rw [cmpL]
    split
    · exact .inl rfl
    · split
      · exact .inr (.inr rfl)
      · exact cmpL_range x y
theorem cmpI_cases (a b : Int) : (a < b ∧ cmpI a b = -1) ∨ (b < a ∧ cmpI a b = 1) ∨ (a = b ∧ cmpI a b = 0) := by
  unfold cmpI
  by_cases h : a < b
  · exact .inl ⟨h, if_pos h⟩
  · by_cases h2 : b < a
    · exact .inr (.inl ⟨h2, by rw [if_neg h, if_pos h2]⟩)
    · exact .inr (.inr ⟨by omega, by rw [if_neg h, if_neg h2]⟩)
theorem cmpS_cases (a b : ByteArray) : (Op.bytesLess a.toList b.toList = true ∧ cmpS a b = -1) ∨ (Op.bytesLess a.toList b.toList = false ∧ (a.toList == b.toList) = true ∧ cmpS a b = 0) ∨ (Op.bytesLess a.toList b.toList = false ∧ (a.toList == b.toList) = false ∧ cmpS a b = 1) := by
  unfold cmpS
  rw [ByteArray.toList_eq, ByteArray.toList_eq]
  rcases cmpL_range a.data.toList b.data.toList with h | h | h
  · exact .inl ⟨(cmpL_less _ _).2 h, h⟩
  · refine .inr (.inl ⟨?_, by rw [beq_iff_eq]; exact (cmpL_zero _ _).1 h, h⟩)
    rw [Bool.eq_false_iff]; intro h2; have := (cmpL_less _ _).1 h2; omega
  · refine .inr (.inr ⟨?_, ?_, h⟩)
    · rw [Bool.eq_false_iff]; intro h2; have := (cmpL_less _ _).1 h2; omega
    · rw [Bool.eq_false_iff]; intro h2; have := (cmpL_zero _ _).2 (beq_iff_eq.1 h2); omega

set_option maxHeartbeats 1000000 in
theorem nan_int (a : Int) (w : World) : Calls Tryd.prog 54 #[.int .i64 a] w fun e w' => e = .returned (.bool false) ∧ w' = w := by
  go_enter Tryd.func54, Tryd.ntmps54
  go_wp2
  go_ret
  exact ⟨by simp, rfl⟩
set_option maxHeartbeats 1000000 in
theorem cmp_int (a b : Int) (w : World) : Calls Tryd.prog 44 #[.int .i64 a, .int .i64 b] w fun e w' => e = .returned (.int .i64 (cmpI a b)) ∧ w' = w := by
  have HC := cmpI_cases a b
  have H1 := Lib.hid (nan_int a w)
  have H2 := Lib.hid (nan_int b w)
  generalize cmpI a b = c at *
  rcases HC with ⟨h, rfl⟩ | ⟨h, rfl⟩ | ⟨rfl, rfl⟩
  all_goals
    go_enter Tryd.func44, Tryd.ntmps44
    go_wp2_with fail
    refine H1.out.mono ?_
    rintro e w1 ⟨rfl, rfl⟩
    go_wp2_with fail
    refine H2.out.mono ?_
    rintro e w2 ⟨rfl, rfl⟩
    go_wp2
    go_ret
    exact ⟨rfl, rfl⟩

set_option maxHeartbeats 1000000 in
theorem nan_int64 (a : Int) (w : World) : Calls Tryd.prog 55 #[.int .i64 a] w fun e w' => e = .returned (.bool false) ∧ w' = w := by
  go_enter Tryd.func55, Tryd.ntmps55
  go_wp2
  go_ret
  exact ⟨by simp, rfl⟩
set_option maxHeartbeats 1000000 in
theorem cmp_int64 (a b : Int) (w : World) : Calls Tryd.prog 45 #[.int .i64 a, .int .i64 b] w fun e w' => e = .returned (.int .i64 (cmpI a b)) ∧ w' = w := by
  have HC := cmpI_cases a b
  have H1 := Lib.hid (nan_int64 a w)
  have H2 := Lib.hid (nan_int64 b w)
  generalize cmpI a b = c at *
  rcases HC with ⟨h, rfl⟩ | ⟨h, rfl⟩ | ⟨rfl, rfl⟩
  all_goals
    go_enter Tryd.func45, Tryd.ntmps45
    go_wp2_with fail
    refine H1.out.mono ?_
    rintro e w1 ⟨rfl, rfl⟩
    go_wp2_with fail
    refine H2.out.mono ?_
    rintro e w2 ⟨rfl, rfl⟩
    go_wp2
    go_ret
    exact ⟨rfl, rfl⟩

set_option maxHeartbeats 1000000 in
theorem nan_string (a : ByteArray) (w : World) : Calls Tryd.prog 56 #[.string a] w fun e w' => e = .returned (.bool false) ∧ w' = w := by
  go_enter Tryd.func56, Tryd.ntmps56
  go_wp2
  go_ret
  exact ⟨by simp, rfl⟩
set_option maxHeartbeats 1000000 in
theorem cmp_string (a b : ByteArray) (w : World) : Calls Tryd.prog 46 #[.string a, .string b] w fun e w' => e = .returned (.int .i64 (cmpS a b)) ∧ w' = w := by
  have HC := cmpS_cases a b
  have H1 := Lib.hid (nan_string a w)
  have H2 := Lib.hid (nan_string b w)
  generalize cmpS a b = c at *
  rcases HC with ⟨h, rfl⟩ | ⟨h, h2, rfl⟩ | ⟨h, h2, rfl⟩
  all_goals
    go_enter Tryd.func46, Tryd.ntmps46
    go_wp2_with fail
    refine H1.out.mono ?_
    rintro e w1 ⟨rfl, rfl⟩
    go_wp2_with fail
    refine H2.out.mono ?_
    rintro e w2 ⟨rfl, rfl⟩
    go_wp2
    go_ret
    exact ⟨rfl, rfl⟩

theorem below_dn (w : World) (n : Nat) : Below w.heap.size w (w.drewN n) := (Chg.drewN w n (fun _ => False)).below (Nat.le_refl _) (fun _ h => h.elim)
theorem below_dn2 (w : World) (n m : Nat) : Below w.heap.size w ((w.drewN n).drewN m) := by rw [World.drewN_drewN]; exact below_dn _ _
theorem below_dn3 (w : World) (n m k : Nat) : Below w.heap.size w (((w.drewN n).drewN m).drewN k) := by rw [World.drewN_drewN, World.drewN_drewN]; exact below_dn _ _
theorem byte_at (s : ByteArray) (k : Nat) (h : k < s.size) : s.data.toList.drop k = s[k] :: s.data.toList.drop (k + 1) := by
  rw [List.drop_eq_getElem_cons (by simpa using h)]
  rfl
end Go.Proofs.YtpnbmgfnnmmokaaDoor
