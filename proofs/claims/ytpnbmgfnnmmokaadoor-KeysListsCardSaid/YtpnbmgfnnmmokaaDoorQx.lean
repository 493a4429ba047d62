/-
  The contract of munimentref04.get.
-/
import Derived.Test.YtpnbmgfnnmmokaaDoorQu
import Derived.LoopTactic
import Derived.OwnWalk
set_option linter.unusedVariables false
namespace Go.Proofs.YtpnbmgfnnmmokaaDoor
open Go.RowKit

/-- Bytes that can be read, as a slice. -/
structure BRow (w : World) (A : Option Addr) (c : Nat) (b : List Int) : Prop where
  cells : Cells w w.heap.size A (U8 b)
  len : b.length ≤ c
  cap : c ≤ 9223372036854775807
  oct : Oct b
theorem BRow.below {w w' : World} {A : Option Addr} {c : Nat} {b : List Int} (h : BRow w A c b) (hb : Below w.heap.size w w') : BRow w' A c b := ⟨(h.cells.below hb).whole, h.len, h.cap, h.oct⟩
theorem BRow.sub {w : World} {bb off c : Nat} {b : List Int} (h : BRow w (some ⟨bb, off, none⟩) c b) (i : Nat) (hi : i ≤ b.length) : BRow w (some ⟨bb, off + i, none⟩) (c - i) (b.drop i) :=
  ⟨h.cells.subU i, by rw [List.length_drop]; have := h.len; omega, by have := h.cap; omega, h.oct.drop i⟩
theorem BRow.none {w : World} {A : Option Addr} : BRow w A 0 [] := ⟨Cells.nil, Nat.le_refl _, by omega, Oct.nil⟩
/-- What is left of a text's bytes, some taken. -/
def joinB (out : List Int) : Option (List Int × List Int) → Option (List Int × List Int)
  | none => none
  | some (s, t) => some (out ++ s, t)
theorem joinB_start (X : Option (List Int × List Int)) : joinB [] X = X := by cases X <;> rfl
theorem joinB_end {out r : List Int} : joinB out (getB (0 :: 0 :: r)) = some (out, r) := by
  rw [getB, if_pos rfl, if_pos rfl]; simp [joinB]
theorem joinB_bad {out r : List Int} {d : Int} (h0 : d ≠ 0) (h1 : d ≠ 255) : joinB out (getB (0 :: d :: r)) = none := by
  rw [getB, if_pos rfl, if_neg h0, if_neg h1]; rfl
theorem joinB_zero {out r : List Int} : joinB out (getB (0 :: 255 :: r)) = joinB (out ++ [0]) (getB r) := by
  rw [getB, if_pos rfl, if_neg (by omega), if_pos rfl]
  cases getB r with
  | none => rfl
  | some q => simp [joinB]
theorem joinB_byte {out r : List Int} {x d : Int} (hx : x ≠ 0) : joinB out (getB (x :: d :: r)) = joinB (out ++ [x]) (getB (d :: r)) := by
  rw [getB, if_neg hx]
  cases getB (d :: r) with
  | none => rfl
  | some q => simp [joinB]
theorem joinB_short {out b : List Int} (h : b.length < 2) : joinB out (getB b) = none := by
  rcases b with _ | ⟨x, _ | ⟨y, r⟩⟩
  · rfl
  · rfl
  · simp at h; omega
/-- What get answers. -/
def GetTIs (wh : World) (X : Option (List Int × List Int)) (e : Ending) : Prop := match X with
  | none => e = .returned (.tuple #[.string ⟨#[]⟩, .slice none 0 0, .bool false])
  | some (x, t) => ∃ A c, e = .returned (.tuple #[.string (strOfNums x), .slice A t.length c, .bool true]) ∧ BRow wh A c t
set_option maxHeartbeats 8000000 in
theorem getT_any (wh : World) (A : Option Addr) (c : Nat) (b : List Int) (w : World) (hB : BRow wh A c b) (h0 : Below wh.heap.size wh w) (hl : b.length ≤ 10000000000000) :
    Calls Tryd.prog 48 #[.slice A b.length c] w fun e w' => GetTIs wh (getB b) e ∧ Below w.heap.size w w' := by
  obtain ⟨X, hX⟩ : ∃ X, getB b = X := ⟨_, rfl⟩
  have HX : Hid (joinB [] (getB b) = X) := Lib.hid (by rw [joinB_start]; exact hX)
  rw [hX]
  clear hX
  have HB0 := Lib.hid hB
  obtain ⟨N, hN⟩ : ∃ N, b.length = N := ⟨_, rfl⟩
  have HN := Lib.hid hN
  rw [hN] at hl ⊢
  clear hB hN
  go_enter Tryd.func48, Tryd.ntmps48
  go_wp2
  go_loopw [0, 5] (fun u v wr => ∃ (A' : Option Addr) (c' n : Nat) (cur out : List Int) (vo : Value), u = .slice A' n c' ∧ vo = v ∧ Hid (cur.length = n) ∧ n ≤ N ∧ BRow wh A' c' cur ∧ Own wr w.heap.size vo out ∧ out.length + n ≤ N ∧ Below w.heap.size w wr ∧ Hid (joinB out (getB cur) = X))
    (fun u _ _ => lenOf u)
  case atStart => exact ⟨A, c, N, b, [], _, rfl, rfl, HN, Nat.le_refl _, HB0.out, Own.nil _ _, by simp, Below.refl _ _, HX⟩
  case round =>
    obtain ⟨A', c', n, cur, out, v, rfl, rfl, HL, hn, hR, hown, hol, hB, HJ⟩ := hrel
    have hsz := hB.size
    have hRr := hR.below (h0.trans (hB.mono h0.size))
    have h0s := h0.size
    have hcc := hR.len
    rw [HL.out] at hcc
    have hcm := hR.cap
    by_cases h2 : 2 ≤ n
    rotate_left
    · have hI : ¬ (2 : Int) ≤ (n : Int) := by omega
      have HE : Hid (X = none) := Lib.hid (by rw [← HJ.out]; exact joinB_short (by rw [HL.out]; omega))
      go_wp2
      go_ret3
      exact ⟨by rw [HE.out]; rfl, hB⟩
    have hI : (2 : Int) ≤ (n : Int) := by omega
    have hI0 : (0 : Int) < (n : Int) := by omega
    have hI1 : (1 : Int) < (n : Int) := by omega
    have hI1' : (1 : Int) ≤ (n : Int) := by omega
    obtain ⟨x, d, r, hcur⟩ : ∃ x d r, cur = x :: d :: r := by
      have h := HL.out
      rcases cur with _ | ⟨x, _ | ⟨d, r⟩⟩
      · simp at h; omega
      · simp at h; omega
      · exact ⟨x, d, r, rfl⟩
    subst hcur
    have HRL : Hid (r.length + 2 = n) := Lib.hid (by have := HL.out; simpa using this)
    obtain ⟨bb, off, rfl, hbw, hcellw⟩ := hR.cells.u8 (l := x :: d :: r) (k := 0) (by simp)
    obtain ⟨_, _, hbb0, hbb, hcell0⟩ := hRr.cells.u8 (l := x :: d :: r) (k := 0) (by simp)
    injection hbb0 with hbb0
    injection hbb0 with hb1 hb2
    subst hb1 hb2
    have hbw := Nat.lt_of_lt_of_le hbw h0s
    have e0 : wr.cell? ⟨bb, off, none⟩ = some (.int .u8 x) := by simpa using hcell0
    have e1 : wr.cell? ⟨bb, off + 1, none⟩ = some (.int .u8 d) := hRr.cells.known (k := 1) rfl
    have hs1 : BRow wh (some ⟨bb, off + 1, none⟩) (c' - 1) (d :: r) := hR.sub 1 (by simp)
    have hs2 : BRow wh (some ⟨bb, off + 2, none⟩) (c' - 2) r := hR.sub 2 (by simp)
    obtain ⟨Ao, co, rfl, hco, hcom, hco2⟩ := hown.shape
    unfold maxLen at hcom
    have hc1 : ¬ c' = 1 := by omega
    have hn1 : IntKind.i64.wrap ((n : Int) - 1) = ((n - 1 : Nat) : Int) := by rw [IntKind.wrap_i64]; omega
    clear hcell0
    by_cases hx : x = 0
    · subst hx
      by_cases hd0 : d = 0
      · subst hd0
        have HE : Hid (X = some (out, r)) := Lib.hid (by rw [← HJ.out]; exact joinB_end)
        have HCV : Hid (∀ w', Calm wr w' → (convert 28 9 (.slice Ao out.length co)).run Tryd.prog w' = .ok (.string (strOfNums out)) w') := Lib.hid fun w' hw' => conv_str Ao out co w' (hco2.below hw').whole
        by_cases hc2 : c' = 2
        · have hn2 : n = 2 := by omega
          have hr0 : r = [] := List.eq_nil_of_length_eq_zero (by have := HRL.out; omega)
          subst hc2 hn2 hr0
          go_wp2
          refine region_calm (by kernel_rfl) (by kernel_rfl) ?_
          repeat (first
            | go_big_quiet_skip
            | (go_big_quiet_want
               apply quiet_at
               · intro w' hw'
                 (have hcv := HCV.out _ (by assumption))
                 go_simp
                 first
                   | done
                   | exact rfl
                   | (fail)
               (try simp only [Act.put, List.setIfInBounds_toArray, List.set_cons_zero, List.set_cons_succ])
               go_big_quiet_on))
          refine wpQuiet_nil ?_
          intro w5 hb5
          go_wp2
          go_ret3
          exact ⟨by rw [HE.out]; exact ⟨_, _, rfl, BRow.none⟩, hB.trans (Below.mono hb5 hB.size)⟩
        · go_wp2
          refine region_calm (by kernel_rfl) (by kernel_rfl) ?_
          repeat (first
            | go_big_quiet_skip
            | (go_big_quiet_want
               apply quiet_at
               · intro w' hw'
                 (have hcv := HCV.out _ (by assumption))
                 go_simp
                 first
                   | done
                   | exact rfl
                   | (fail)
               (try simp only [Act.put, List.setIfInBounds_toArray, List.set_cons_zero, List.set_cons_succ])
               go_big_quiet_on))
          refine wpQuiet_nil ?_
          intro w5 hb5
          go_wp2
          go_ret3
          exact ⟨by rw [HE.out]; exact ⟨some ⟨bb, off + 2, none⟩, c' - 2, by rw [show r.length = n - 2 by have := HRL.out; omega]; rfl, hs2⟩, hB.trans (Below.mono hb5 hB.size)⟩
      · by_cases hd1 : d = 255
        · subst hd1
          have HE : Hid (joinB (out ++ [0]) (getB r) = X) := Lib.hid (by rw [← HJ.out]; exact joinB_zero.symm)
          have hn2 : IntKind.i64.wrap (((n - 1 : Nat) : Int) - 1) = ((n - 2 : Nat) : Int) := by rw [IntKind.wrap_i64]; omega
          have hI2 : (1 : Int) ≤ ((n - 1 : Nat) : Int) := by omega
          by_cases hc2 : c' = 2
          · have hn2' : n = 2 := by omega
            have hr0 : r = [] := List.eq_nil_of_length_eq_zero (by have := HRL.out; omega)
            subst hc2 hn2' hr0
            go_wp2_with (first | (at_builtin; refine app_one rfl (.tmp 33) (.tmp 37) rfl w.heap.size _ _ _ rfl hown rfl (by omega) (by omega) ?_; intro v1 w1 hown1 hg1; obtain ⟨f0, f1⟩ : w1.cell? ⟨bb, off, none⟩ = some (.int .u8 0) ∧ w1.cell? ⟨bb, off + 1, none⟩ = some (.int .u8 255) := ⟨(hg1.below hown hsz).cell (p := ⟨bb, off, none⟩) (hbw) |>.trans e0, (hg1.below hown hsz).cell (p := ⟨bb, off + 1, none⟩) (hbw) |>.trans e1⟩))
            go_roundw
            case rel => exact ⟨_, 0, 0, [], out ++ [0], _, rfl, rfl, Lib.hid rfl, Nat.zero_le _, BRow.none, hown1, by simp; omega, hB.trans (hg1.below hown hsz), HE⟩
            case measure => simp [lenOf]
          · have hc3 : ¬ c' - 1 = 1 := by omega
            go_wp2_with (first | (at_builtin; refine app_one rfl (.tmp 33) (.tmp 37) rfl w.heap.size _ _ _ rfl hown rfl (by omega) (by omega) ?_; intro v1 w1 hown1 hg1; obtain ⟨f0, f1⟩ : w1.cell? ⟨bb, off, none⟩ = some (.int .u8 0) ∧ w1.cell? ⟨bb, off + 1, none⟩ = some (.int .u8 255) := ⟨(hg1.below hown hsz).cell (p := ⟨bb, off, none⟩) (hbw) |>.trans e0, (hg1.below hown hsz).cell (p := ⟨bb, off + 1, none⟩) (hbw) |>.trans e1⟩))
            go_roundw
            case rel => exact ⟨some ⟨bb, off + 2, none⟩, c' - 2, n - 2, r, out ++ [0], _, by (first | rfl | (congr 1 <;> omega)), rfl, Lib.hid (by have := HRL.out; omega), by omega, hs2, hown1, by simp; omega, hB.trans (hg1.below hown hsz), HE⟩
            case measure => simp [lenOf]; omega
        · have hdb0 : (d == 0) = false := by simpa using hd0
          have hdb1 : (d != 255) = true := by simpa using hd1
          have HE : Hid (X = none) := Lib.hid (by rw [← HJ.out]; exact joinB_bad hd0 hd1)
          go_wp2
          go_ret3
          exact ⟨by rw [HE.out]; rfl, hB⟩
    · have hxb : (x == 0) = false := by simpa using hx
      have HE : Hid (joinB (out ++ [x]) (getB (d :: r)) = X) := Lib.hid (by rw [← HJ.out]; exact (joinB_byte hx).symm)
      go_wp2_with (first | (at_builtin; refine app_one rfl (.tmp 33) (.tmp 37) rfl w.heap.size _ _ _ rfl hown rfl (by omega) (by omega) ?_; intro v1 w1 hown1 hg1; obtain ⟨f0, f1⟩ : w1.cell? ⟨bb, off, none⟩ = some (.int .u8 x) ∧ w1.cell? ⟨bb, off + 1, none⟩ = some (.int .u8 d) := ⟨(hg1.below hown hsz).cell (p := ⟨bb, off, none⟩) (hbw) |>.trans e0, (hg1.below hown hsz).cell (p := ⟨bb, off + 1, none⟩) (hbw) |>.trans e1⟩))
      go_roundw
      case rel => exact ⟨some ⟨bb, off + 1, none⟩, c' - 1, n - 1, d :: r, out ++ [x], _, rfl, rfl, Lib.hid (by have := HRL.out; simp; omega), by omega, hs1, hown1, by simp; omega, hB.trans (hg1.below hown hsz), HE⟩
      case measure => simp [lenOf]; omega
end Go.Proofs.YtpnbmgfnnmmokaaDoor
