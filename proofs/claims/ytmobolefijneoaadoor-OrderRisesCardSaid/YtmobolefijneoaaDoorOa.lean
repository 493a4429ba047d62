/-
  Plain order of numbers and texts; the contracts of cmp.Compare, of munimentref03.lengths and texts.
-/
import Derived.Test.YtmobolefijneoaaDoorWg
import Derived.LoopTactic
set_option linter.unusedVariables false
namespace Go.Proofs.YtmobolefijneoaaDoor
open Go.RowKit

def cmpI (a b : Int) : Int := if a < b then -1 else if b < a then 1 else 0
def cmpL : List UInt8 → List UInt8 → Int
  | [], [] => 0
  | [], _ :: _ => -1
  | _ :: _, [] => 1
  | a :: x, b :: y => if a < b then -1 else if b < a then 1 else cmpL x y
def cmpS (a b : ByteArray) : Int := cmpL a.data.toList b.data.toList
theorem cmpL_less : ∀ (x y : List UInt8), Op.bytesLess x y = true ↔ cmpL x y = -1
  | [], [] => by simp [Op.bytesLess, cmpL]
  | [], _ :: _ => by simp [Op.bytesLess, cmpL]
  | _ :: _, [] => by simp [Op.bytesLess, cmpL]
  | a :: x, b :: y => by
    rw [Op.bytesLess, cmpL]
    by_cases h : a < b
    · simp [h]
    · rw [if_neg h]
      by_cases h2 : b < a
      · have : ¬ a = b := fun e => by rw [e] at h2; exact absurd h2 (UInt8.lt_irrefl _)
        simp [h, h2, this]
      · have e : a = b := UInt8.le_antisymm (UInt8.not_lt.1 h2) (UInt8.not_lt.1 h)
        rw [if_neg h2, ← cmpL_less x y]
        simp [e]
theorem cmpL_zero : ∀ (x y : List UInt8), cmpL x y = 0 ↔ x = y
  | [], [] => by simp [cmpL]
  | [], _ :: _ => by simp [cmpL]
  | _ :: _, [] => by simp [cmpL]
  | a :: x, b :: y => by
    rw [cmpL]
    by_cases h : a < b
    · have : ¬ a = b := fun e => by rw [e] at h; exact absurd h (UInt8.lt_irrefl _)
      simp [h, this]
    · rw [if_neg h]
      by_cases h2 : b < a
      · have : ¬ a = b := fun e => by rw [e] at h2; exact absurd h2 (UInt8.lt_irrefl _)
        simp [h2, this]
      · have e : a = b := UInt8.le_antisymm (UInt8.not_lt.1 h2) (UInt8.not_lt.1 h)
        rw [if_neg h2, cmpL_zero x y]
        simp [e]
theorem cmpL_range : ∀ (x y : List UInt8), cmpL x y = -1 ∨ cmpL x y = 0 ∨ cmpL x y = 1
  | [], [] => by simp [cmpL]
  | [], _ :: _ => by simp [cmpL]
  | _ :: _, [] => by simp [cmpL]
  | a :: x, b :: y => by
    rw [cmpL]
    split
    · exact .inl rfl
    · split
      · exact .inr (.inr rfl)
      · exact cmpL_range x y
theorem cmpI_cases (a b : Int) : (a < b ∧ cmpI a b = -1) ∨ (b < a ∧ cmpI a b = 1) ∨ (a = b ∧ cmpI a b = 0) := by
  unfold cmpI
  by_cases h : a < b
  · exact .inl ⟨h, if_pos h⟩
  · by_cases h2 : b < a
    · exact .inr (.inl ⟨h2, by rw [if_neg h, if_pos h2]⟩)
    · exact .inr (.inr ⟨by omega, by rw [if_neg h, if_neg h2]⟩)
theorem cmpS_cases (a b : ByteArray) : (Op.bytesLess a.toList b.toList = true ∧ cmpS a b = -1) ∨ (Op.bytesLess a.toList b.toList = false ∧ (a.toList == b.toList) = true ∧ cmpS a b = 0) ∨ (Op.bytesLess a.toList b.toList = false ∧ (a.toList == b.toList) = false ∧ cmpS a b = 1) := by
  unfold cmpS
  rw [ByteArray.toList_eq, ByteArray.toList_eq]
  rcases cmpL_range a.data.toList b.data.toList with h | h | h
  · exact .inl ⟨(cmpL_less _ _).2 h, h⟩
  · refine .inr (.inl ⟨?_, by rw [beq_iff_eq]; exact (cmpL_zero _ _).1 h, h⟩)
    rw [Bool.eq_false_iff]; intro h2; have := (cmpL_less _ _).1 h2; omega
  · refine .inr (.inr ⟨?_, ?_, h⟩)
    · rw [Bool.eq_false_iff]; intro h2; have := (cmpL_less _ _).1 h2; omega
    · rw [Bool.eq_false_iff]; intro h2; have := (cmpL_zero _ _).2 (beq_iff_eq.1 h2); omega

set_option maxHeartbeats 1000000 in
theorem nan_int (a : Int) (w : World) : Calls Tryd.prog 45 #[.int .i64 a] w fun e w' => e = .returned (.bool false) ∧ w' = w := by
  go_enter Tryd.func45, Tryd.ntmps45
  go_wp2
  go_ret
  exact ⟨by simp, rfl⟩
set_option maxHeartbeats 1000000 in
theorem cmp_int (a b : Int) (w : World) : Calls Tryd.prog 33 #[.int .i64 a, .int .i64 b] w fun e w' => e = .returned (.int .i64 (cmpI a b)) ∧ w' = w := by
  have HC := cmpI_cases a b
  have H1 := Lib.hid (nan_int a w)
  have H2 := Lib.hid (nan_int b w)
  generalize cmpI a b = c at *
  rcases HC with ⟨h, rfl⟩ | ⟨h, rfl⟩ | ⟨rfl, rfl⟩
  all_goals
    go_enter Tryd.func33, Tryd.ntmps33
    go_wp2_with fail
    refine H1.out.mono ?_
    rintro e w1 ⟨rfl, rfl⟩
    go_wp2_with fail
    refine H2.out.mono ?_
    rintro e w2 ⟨rfl, rfl⟩
    go_wp2
    go_ret
    exact ⟨rfl, rfl⟩

set_option maxHeartbeats 1000000 in
theorem nan_int64 (a : Int) (w : World) : Calls Tryd.prog 46 #[.int .i64 a] w fun e w' => e = .returned (.bool false) ∧ w' = w := by
  go_enter Tryd.func46, Tryd.ntmps46
  go_wp2
  go_ret
  exact ⟨by simp, rfl⟩
set_option maxHeartbeats 1000000 in
theorem cmp_int64 (a b : Int) (w : World) : Calls Tryd.prog 34 #[.int .i64 a, .int .i64 b] w fun e w' => e = .returned (.int .i64 (cmpI a b)) ∧ w' = w := by
  have HC := cmpI_cases a b
  have H1 := Lib.hid (nan_int64 a w)
  have H2 := Lib.hid (nan_int64 b w)
  generalize cmpI a b = c at *
  rcases HC with ⟨h, rfl⟩ | ⟨h, rfl⟩ | ⟨rfl, rfl⟩
  all_goals
    go_enter Tryd.func34, Tryd.ntmps34
    go_wp2_with fail
    refine H1.out.mono ?_
    rintro e w1 ⟨rfl, rfl⟩
    go_wp2_with fail
    refine H2.out.mono ?_
    rintro e w2 ⟨rfl, rfl⟩
    go_wp2
    go_ret
    exact ⟨rfl, rfl⟩

set_option maxHeartbeats 1000000 in
theorem nan_string (a : ByteArray) (w : World) : Calls Tryd.prog 47 #[.string a] w fun e w' => e = .returned (.bool false) ∧ w' = w := by
  go_enter Tryd.func47, Tryd.ntmps47
  go_wp2
  go_ret
  exact ⟨by simp, rfl⟩
set_option maxHeartbeats 1000000 in
theorem cmp_string (a b : ByteArray) (w : World) : Calls Tryd.prog 35 #[.string a, .string b] w fun e w' => e = .returned (.int .i64 (cmpS a b)) ∧ w' = w := by
  have HC := cmpS_cases a b
  have H1 := Lib.hid (nan_string a w)
  have H2 := Lib.hid (nan_string b w)
  generalize cmpS a b = c at *
  rcases HC with ⟨h, rfl⟩ | ⟨h, h2, rfl⟩ | ⟨h, h2, rfl⟩
  all_goals
    go_enter Tryd.func35, Tryd.ntmps35
    go_wp2_with fail
    refine H1.out.mono ?_
    rintro e w1 ⟨rfl, rfl⟩
    go_wp2_with fail
    refine H2.out.mono ?_
    rintro e w2 ⟨rfl, rfl⟩
    go_wp2
    go_ret
    exact ⟨rfl, rfl⟩

set_option maxHeartbeats 1000000 in
theorem lengths_any (a b : Int) (w : World) : Calls Tryd.prog 38 #[.int .i64 a, .int .i64 b] w fun e w' => e = .returned (.int .i64 (cmpI a b)) ∧ w' = w := by
  have HC := cmpI_cases a b
  generalize cmpI a b = c at *
  rcases HC with ⟨h, rfl⟩ | ⟨h, rfl⟩ | ⟨rfl, rfl⟩
  all_goals
    go_enter Tryd.func38, Tryd.ntmps38
    go_wp2
    go_ret
    exact ⟨rfl, rfl⟩

theorem below_dn (w : World) (n : Nat) : Below w.heap.size w (w.drewN n) := (Chg.drewN w n (fun _ => False)).below (Nat.le_refl _) (fun _ h => h.elim)
theorem below_dn2 (w : World) (n m : Nat) : Below w.heap.size w ((w.drewN n).drewN m) := by rw [World.drewN_drewN]; exact below_dn _ _
theorem below_dn3 (w : World) (n m k : Nat) : Below w.heap.size w (((w.drewN n).drewN m).drewN k) := by rw [World.drewN_drewN, World.drewN_drewN]; exact below_dn _ _
theorem byte_at (s : ByteArray) (k : Nat) (h : k < s.size) : s.data.toList.drop k = s[k] :: s.data.toList.drop (k + 1) := by
  rw [List.drop_eq_getElem_cons (by simpa using h)]
  rfl
set_option maxHeartbeats 4000000 in
theorem texts_any (a b : ByteArray) (w : World) (ha : a.size ≤ 9223372036854775807) : Calls Tryd.prog 39 #[.string a, .string b] w fun e w' => e = .returned (.int .i64 (cmpS a b)) ∧ Below w.heap.size w w' := by
  obtain ⟨X, hX⟩ : ∃ X, cmpS a b = X := ⟨_, rfl⟩
  rw [hX]
  have HX : Hid (cmpL (a.data.toList.drop 0) (b.data.toList.drop 0) = X) := Lib.hid hX
  clear hX
  have HLE := Lib.hid (fun w' => lengths_any a.size b.size w')
  go_enter Tryd.func39, Tryd.ntmps39
  go_wp2
  go_loopw [5] (fun i wr => ∃ (q n : Nat), i = .int .i64 q ∧ q ≤ a.size ∧ q ≤ b.size ∧ Hid (cmpL (a.data.toList.drop q) (b.data.toList.drop q) = X) ∧ wr = w.drewN n) (fun i _ => a.size - (RowKit.intOf i).toNat)
  case atStart => exact ⟨0, 0, rfl, Nat.zero_le _, Nat.zero_le _, HX, rfl⟩
  case round =>
    obtain ⟨q, nn, rfl, hq, hq2, HQ, rfl⟩ := hrel
    by_cases h1 : q < a.size
    · have h1I : (q : Int) < (a.size : Int) := by omega
      by_cases h2 : q < b.size
      · have h2I : (q : Int) < (b.size : Int) := by omega
        have hq0 : (0 : Int) ≤ (q : Int) := by omega
        have HQ2 : Hid ((if a[q] < b[q] then -1 else if b[q] < a[q] then 1 else cmpL (a.data.toList.drop (q + 1)) (b.data.toList.drop (q + 1))) = X) := Lib.hid (by rw [← HQ.out, byte_at a q h1, byte_at b q h2, cmpL])
        obtain ⟨x, hx⟩ : ∃ x, (a[q]'h1).toNat = x := ⟨_, rfl⟩
        obtain ⟨y, hy⟩ : ∃ y, (b[q]'h2).toNat = y := ⟨_, rfl⟩
        have HLT : Hid ((a[q] < b[q] ↔ x < y) ∧ (b[q] < a[q] ↔ y < x)) := Lib.hid (by rw [← hx, ← hy]; exact ⟨UInt8.lt_iff_toNat_lt, UInt8.lt_iff_toNat_lt⟩)
        by_cases c1 : x < y
        · have HE : Hid (X = -1) := Lib.hid (by rw [← HQ2.out, if_pos (HLT.out.1.2 c1)])
          have c1I : (x : Int) < (y : Int) := by omega
          have d1 : decide ((x : Int) < (y : Int)) = true := by simp; omega
          go_wp2
          go_quiet (fail)
          go_wp2
          go_ret
          exact ⟨by rw [HE.out] <;> rfl, below_dn2 _ _ _⟩
        · by_cases c2 : y < x
          · have HE : Hid (X = 1) := Lib.hid (by rw [← HQ2.out, if_neg (fun h => c1 (HLT.out.1.1 h)), if_pos (HLT.out.2.2 c2)])
            have d1 : decide ((x : Int) < (y : Int)) = false := by simp; omega
            have d2 : decide ((y : Int) < (x : Int)) = true := by simp; omega
            have c2I : (y : Int) < (x : Int) := by omega
            have c1I : ¬ (x : Int) < (y : Int) := by omega
            go_wp2
            go_quiet (fail)
            go_wp2
            go_quiet (fail)
            go_wp2
            go_ret
            exact ⟨by rw [HE.out] <;> rfl, below_dn3 _ _ _ _⟩
          · have HE : Hid (cmpL (a.data.toList.drop (q + 1)) (b.data.toList.drop (q + 1)) = X) := Lib.hid (by rw [← HQ2.out, if_neg (fun h => c1 (HLT.out.1.1 h)), if_neg (fun h => c2 (HLT.out.2.1 h))])
            have d1 : decide ((x : Int) < (y : Int)) = false := by simp; omega
            have d2 : decide ((y : Int) < (x : Int)) = false := by simp; omega
            have c2I : ¬ (y : Int) < (x : Int) := by omega
            have c1I : ¬ (x : Int) < (y : Int) := by omega
            go_wp2
            go_quiet (fail)
            go_wp2
            go_quiet (fail)
            go_wp2
            go_roundw
            case rel => exact ⟨q + 1, _, by go_num, by omega, by omega, HE, rfl⟩
            case measure => simp [RowKit.intOf]; omega
      · have h2I : ¬ (q : Int) < (b.size : Int) := by omega
        have HE : Hid (cmpI a.size b.size = X) := Lib.hid (by
          rw [← HQ.out, byte_at a q h1, (List.drop_of_length_le (by simpa using Nat.le_of_not_lt h2) : b.data.toList.drop q = []), cmpL, cmpI, if_neg (by omega), if_pos (by omega)])
        have HL := Lib.hid (HLE.out (w.drewN nn))
        rw [HE.out] at HL
        clear HLE HE
        go_wp2_with fail
        refine HL.out.mono ?_
        rintro e w1 ⟨rfl, rfl⟩
        go_wp2
        go_ret
        exact ⟨rfl, below_dn _ _⟩
    · have h1I : ¬ (q : Int) < (a.size : Int) := by omega
      have HE : Hid (cmpI a.size b.size = X) := Lib.hid (by
        rw [← HQ.out, (List.drop_of_length_le (by simpa using Nat.le_of_not_lt h1) : a.data.toList.drop q = [])]
        by_cases h2 : q < b.size
        · rw [byte_at b q h2, cmpL, cmpI, if_pos (by omega)]
        · rw [(List.drop_of_length_le (by simpa using Nat.le_of_not_lt h2) : b.data.toList.drop q = []), cmpL, cmpI, if_neg (by omega), if_neg (by omega)])
      have HL := Lib.hid (HLE.out (w.drewN nn))
      rw [HE.out] at HL
      clear HLE HE
      go_wp2_with fail
      refine HL.out.mono ?_
      rintro e w1 ⟨rfl, rfl⟩
      go_wp2
      go_ret
      exact ⟨rfl, below_dn _ _⟩
end Go.Proofs.YtmobolefijneoaaDoor
