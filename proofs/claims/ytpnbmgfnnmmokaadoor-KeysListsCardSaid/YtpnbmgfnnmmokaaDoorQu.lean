/-
  The contract of the program's reader's text.
-/
import Derived.Test.YtpnbmgfnnmmokaaDoorQt
import Derived.LoopTactic
set_option linter.unusedVariables false
namespace Go.Proofs.YtpnbmgfnnmmokaaDoor
open Go.RowKit

theorem Chg.thenB {w a b : World} {S : Nat → Prop} (h : Chg w a S) (k : Below w.heap.size a b) : Chg w b S :=
  ⟨k.os.trans h.os, k.tape.trans h.tape, k.output.trans h.output, Nat.le_trans h.size k.size, fun i hi hne => (k.block i hi).trans (h.block i hi hne)⟩
theorem Chg.thenC {w a b : World} {S : Nat → Prop} (h : Chg w a S) (k : Chg a b S) : Chg w b S := h.trans k fun i hi => .inl hi
theorem next_lt (r : Nat) (A : Option Addr) (c : Nat) (b : List Int) (p : Nat) (no : Bool) (w : World) (x : Int) (hR : RdAt w r A c b p no) (hc : Cells w r A (U8 b)) (hp : p < b.length) (hl : b.length ≤ 10000000000000) (hx : b[p] = x) :
    Calls Tryd.prog 57 #[.pointer (some ⟨r, 0, none⟩)] w fun e w' => e = .returned (.int .u8 x) ∧ RdAt w' r A c b (p + 1) no ∧ Chg w w' (fun k => k = r) := by
  have h := next_any r A c b p no w hR hc (by omega) hl
  rw [byteAt_lt hp, hx, stepP, if_pos hp, stepN, if_pos hp] at h
  exact h
theorem next_ge (r : Nat) (A : Option Addr) (c : Nat) (b : List Int) (p : Nat) (no : Bool) (w : World) (hR : RdAt w r A c b p no) (hc : Cells w r A (U8 b)) (hp : p = b.length) (hl : b.length ≤ 10000000000000) :
    Calls Tryd.prog 57 #[.pointer (some ⟨r, 0, none⟩)] w fun e w' => e = .returned (.int .u8 0) ∧ RdAt w' r A c b p true ∧ Chg w w' (fun k => k = r) := by
  have h := next_any r A c b p no w hR hc (by omega) hl
  rw [byteAt_ge (by omega), stepP, if_neg (by omega), stepN, if_neg (by omega)] at h
  exact h
theorem joinT_more {out r : List Int} {x : Int} (hx : x ≠ 0) : joinT out (getB (x :: r)) = joinT (out ++ [x]) (getB r) := by
  rcases r with _ | ⟨d, r⟩
  · rfl
  · exact joinT_byte hx
/-- What text answers: the text, and where the reader stands. -/
def TextIs (b : List Int) (p : Nat) (no : Bool) (s : ByteArray) (p' : Nat) (no' : Bool) : Prop :=
  p' ≤ b.length ∧ s.size ≤ 60 ∧ (no = true → no' = true) ∧ (no = false → no' = false → ∃ x, getG true (b.drop p) = some (x, b.drop p') ∧ s = strOfNums x) ∧ (no = false → no' = true → getG true (b.drop p) = none)
/-- Where text stands. -/
def TextAt (b : List Int) (no0 : Bool) (X : Option (List Int × List Int)) (out : List Int) (p : Nat) (no : Bool) : Prop :=
  p ≤ b.length ∧ out.length ≤ 61 ∧ (no0 = true → no = true) ∧ (no = false → out.length ≤ 60 ∧ joinT out (getB (b.drop p)) = X) ∧ (no = true → no0 = false → X = none)
theorem TextAt.go {b : List Int} {no0 : Bool} {X : Option (List Int × List Int)} {out : List Int} {p p' : Nat} {x : Int} (h : TextAt b no0 X out p false) (hp : p' ≤ b.length) (hj : joinT (out ++ [x]) (getB (b.drop p')) = X) : TextAt b no0 X (out ++ [x]) p' (decide (60 < out.length + 1)) := by
  obtain ⟨h1, h2, h3, h4, h5⟩ := h
  obtain ⟨h6, h7⟩ := h4 rfl
  have hl : (out ++ [x]).length = out.length + 1 := by simp
  refine ⟨hp, by omega, (fun h => by have := h3 h; cases this), fun h => ⟨by rw [decide_eq_false_iff_not] at h; omega, hj⟩, fun h _ => ?_⟩
  rw [decide_eq_true_iff] at h
  rw [← hj]
  exact joinT_over (by omega) _
theorem TextAt.bad {b : List Int} {no0 : Bool} {X : Option (List Int × List Int)} {out : List Int} {p p' : Nat} {x : Int} (h : TextAt b no0 X out p false) (hp : p' ≤ b.length) (hj : joinT out (getB (b.drop p)) = none) : TextAt b no0 X (out ++ [x]) p' true := by
  obtain ⟨h1, h2, h3, h4, h5⟩ := h
  obtain ⟨h6, h7⟩ := h4 rfl
  have hl : (out ++ [x]).length = out.length + 1 := by simp
  exact ⟨hp, by omega, fun h => rfl, (fun h => by cases h), fun _ _ => by rw [← h7]; exact hj⟩
theorem drop_two {b : List Int} {p : Nat} (h : p + 1 < b.length) : b.drop p = b[p] :: b[p + 1] :: b.drop (p + 2) := by
  rw [List.drop_eq_getElem_cons (by omega), List.drop_eq_getElem_cons h]
theorem drop_one {b : List Int} {p : Nat} (h : p + 1 = b.length) : b.drop p = [b[p]] := by
  rw [List.drop_eq_getElem_cons (by omega), List.drop_of_length_le (by omega)]

set_option maxHeartbeats 8000000 in
theorem text_read (r : Nat) (A : Option Addr) (c : Nat) (b : List Int) (p0 : Nat) (no0 : Bool) (w : World) (hR : RdAt w r A c b p0 no0) (hc : Cells w r A (U8 b)) (hp : p0 ≤ b.length) (hl : b.length ≤ 10000000000000) :
    Calls Tryd.prog 59 #[.pointer (some ⟨r, 0, none⟩)] w fun e w' => ∃ s p' no', e = .returned (.string s) ∧ TextIs b p0 no0 s p' no' ∧ RdAt w' r A c b p' no' ∧ Chg w w' (fun k => k = r) := by
  have hrl : r < w.heap.size := Blk.lt hR
  obtain ⟨X, hX⟩ : ∃ X, getG true (b.drop p0) = X := ⟨_, rfl⟩
  have HX := Lib.hid hX
  have HS0 : Hid (TextAt b no0 X [] p0 no0) := Lib.hid ⟨hp, by simp, fun h => h, fun h => ⟨by simp, by rw [joinT_start]; exact hX⟩, fun h h' => by rw [h] at h'; cases h'⟩
  clear hX hp
  have HFIN : Hid (∀ s p' no', p' ≤ b.length → s.size ≤ 60 → (no0 = true → no' = true) → (no0 = false → no' = false → ∃ x, X = some (x, b.drop p') ∧ s = strOfNums x) → (no0 = false → no' = true → X = none) → TextIs b p0 no0 s p' no') := Lib.hid fun s p' no' h1 h2 h3 h4 h5 => by unfold TextIs; rw [HX.out]; exact ⟨h1, h2, h3, h4, h5⟩
  clear HX
  go_enter Tryd.func59, Tryd.ntmps59
  go_wp2
  go_loopw [3] (fun v wr => ∃ (out : List Int) (p : Nat) (no : Bool) (u : Value), u = v ∧ Hid (TextAt b no0 X out p no) ∧ out.length ≤ 61 ∧ Own wr w.heap.size u out ∧ RdAt wr r A c b p no ∧ Chg w wr (fun k => k = r))
    (fun v _ => 100 - lenOf v)
  case atStart => exact ⟨[], p0, no0, _, rfl, HS0, by simp, Own.nil _ _, hR, Chg.refl _ _⟩
  case round =>
    obtain ⟨out, p, no, v, rfl, HT, hol, hown, hRr, hC⟩ := hrel
    clear HS0 hR
    obtain ⟨Ao, co, rfl, hco, hcm, hcells⟩ := hown.shape
    unfold maxLen at hcm
    have hcr := hc.chgR hrl hC
    have hsz := hC.size
    have hRb : Blk wr r 54 #[.slice A b.length c, .int .i64 p, .bool no] := hRr
    have z2 : wr.cell? ⟨r, 2, none⟩ = some (.bool no) := hRb.cell 2
    cases no with
    | true =>
      have HD : Hid (TextIs b p0 no0 ⟨#[]⟩ p true) := Lib.hid (HFIN.out _ _ _ HT.out.1 (by decide) (fun _ => rfl) (fun _ h => by cases h) (fun h _ => HT.out.2.2.2.2 rfl h))
      go_wp2
      go_ret
      exact ⟨_, _, _, rfl, HD.out, hRr, hC⟩
    | false =>
      have hp := HT.out.1
      have h60 := (HT.out.2.2.2.1 rfl).1
      have HJ : Hid (joinT out (getB (b.drop p)) = X) := Lib.hid (HT.out.2.2.2.1 rfl).2
      have HN0 : Hid (no0 = false) := Lib.hid (by cases no0; rfl; have := HT.out.2.2.1 rfl; cases this)
      by_cases hpl : p < b.length
      · obtain ⟨x, hx⟩ : ∃ x, b[p] = x := ⟨_, rfl⟩
        have HC1 := Lib.hid (next_lt r A c b p false wr x hRr hcr hpl hl hx)
        have HXE := Lib.hid hx
        clear hx
        by_cases hx0 : x = 0
        · subst hx0
          by_cases hpl2 : p + 1 < b.length
          · obtain ⟨d, hd⟩ : ∃ d, b[p + 1] = d := ⟨_, rfl⟩
            have HD2 : Hid (b.drop p = 0 :: d :: b.drop (p + 2)) := Lib.hid (by rw [drop_two hpl2, HXE.out, hd])
            have HC2 : Hid (∀ w', RdAt w' r A c b (p + 1) false → Cells w' r A (U8 b) → Calls Tryd.prog 57 #[.pointer (some ⟨r, 0, none⟩)] w' fun e w'' => e = .returned (.int .u8 d) ∧ RdAt w'' r A c b (p + 2) false ∧ Chg w' w'' (fun k => k = r)) := Lib.hid fun w' h1 h2 => next_lt r A c b (p + 1) false w' d h1 h2 hpl2 hl hd
            clear hd
            go_wp2_with fail
            refine HC1.out.mono ?_
            rintro e w1 ⟨rfl, hR1, hC1⟩
            clear z2
            have hcr1 := hcr.chgR (by omega) hC1
            have HC2' := Lib.hid (HC2.out w1 hR1 hcr1)
            go_wp2_with fail
            refine HC2'.out.mono ?_
            rintro e w2 ⟨rfl, hR2, hC2⟩
            have hC12 := hC1.thenC hC2
            have hown2 : Own w2 w.heap.size (.slice Ao out.length co) out := row_chgP hown hC12 hrl
            have hsz2 := hC12.size
            have hRb2 : Blk w2 r 54 #[.slice A b.length c, .int .i64 ((p + 2 : Nat) : Int), .bool false] := hR2
            clear HC1 HC2 HC2'
            by_cases hd0 : d = 0
            · subst hd0
              have HTI : Hid (TextIs b p0 no0 (strOfNums out) (p + 2) false) := Lib.hid (HFIN.out _ _ _ (by omega) (by rw [str_size]; exact h60) (fun h => by rw [HN0.out] at h; cases h) (fun _ _ => ⟨out, by rw [← HJ.out, HD2.out]; exact joinT_end h60, rfl⟩) (fun _ h => by cases h))
              have hcv := conv_str Ao out co w2 hown2.cells
              go_wp2
              go_ret
              exact ⟨_, _, _, rfl, HTI.out, hR2, hC.thenC hC12⟩
            · by_cases hd1 : d = 255
              · subst hd1
                have HT2 : Hid (TextAt b no0 X (out ++ [0]) (p + 2) (decide (60 < out.length + 1))) := Lib.hid (HT.out.go (by omega) (by rw [← HJ.out, HD2.out]; exact joinT_zero.symm))
                have f2 := hRb2.free 2
                obtain ⟨y0, y1, y2⟩ : w2.cell? ⟨r, 0, none⟩ = some (.slice A b.length c) ∧ w2.cell? ⟨r, 1, none⟩ = some (.int .i64 ((p + 2 : Nat) : Int)) ∧ w2.cell? ⟨r, 2, none⟩ = some (.bool false) := ⟨hRb2.cell 0, hRb2.cell 1, hRb2.cell 2⟩
                go_upto_region 12 with (first | (at_builtin; refine app_one rfl (.tmp 27) (.tmp 29) rfl w.heap.size _ _ _ rfl hown2 rfl (by omega) (by omega) ?_; intro v4 w4 hown4 hg4))
                have hRb4 := hRb2.grew hown2 hrl hg4
                have hb4 := hg4.below hown2 (by omega)
                have g2 : w4.cell? ⟨r, 2, none⟩ = some (.bool false) := hRb4.cell 2
                have g3 := hRb4.free 2
                obtain ⟨A4, c4, rfl, hc4, hm4, _⟩ := hown4.shape
                unfold maxLen at hm4
                have hl4 : (out ++ [(0 : Int)]).length = out.length + 1 := by simp
                rw [hl4] at hown4 hg4 hc4 ⊢
                have hdc : decide ((60 : Int) < ((out.length + 1 : Nat) : Int)) = decide (60 < out.length + 1) := by congr 1; apply propext; omega
                obtain ⟨o1, ho1⟩ : ∃ o1, out.length + 1 = o1 := ⟨_, rfl⟩
                rw [ho1] at hown4 hg4 hc4 HT2 hdc ⊢
                have HO1 := Lib.hid ho1
                clear ho1 hl4
                go_wp2
                have hC9 : Chg w (w4.setCell ⟨r, 2, none⟩ (.bool (decide (60 < o1)))) (fun k => k = r) := ((hC.thenC hC12).thenB hb4).thenC (Chg.setCell w4 ⟨r, 2, none⟩ _)
                have hown9 : Own (w4.setCell ⟨r, 2, none⟩ (.bool (decide (60 < o1)))) w.heap.size (.slice A4 o1 c4) (out ++ [0]) := row_chgP hown4 (Chg.setCell w4 ⟨r, 2, none⟩ _) hrl
                have hR9 : RdAt (w4.setCell ⟨r, 2, none⟩ (.bool (decide (60 < o1)))) r A c b (p + 2) (decide (60 < o1)) := by unfold RdAt; simpa using hRb4.set_ 2 (.bool (decide (60 < o1)))
                go_roundw
                case rel => exact ⟨_, _, _, _, rfl, HT2, by have := HO1.out; simp; omega, hown9, hR9, hC9⟩
                case measure => have := HO1.out; simp [lenOf]; omega
              · have hdb0 : (d == 0) = false := by simpa using hd0
                have hdb1 : (d == 255) = false := by simpa using hd1
                have HT2 : Hid (TextAt b no0 X (out ++ [0]) (p + 2) true) := Lib.hid (HT.out.bad (by omega) (by rw [HD2.out]; exact joinT_bad hd0 hd1))
                have f2 := hRb2.free 2
                obtain ⟨y0, y1, y2⟩ : w2.cell? ⟨r, 0, none⟩ = some (.slice A b.length c) ∧ w2.cell? ⟨r, 1, none⟩ = some (.int .i64 ((p + 2 : Nat) : Int)) ∧ w2.cell? ⟨r, 2, none⟩ = some (.bool false) := ⟨hRb2.cell 0, hRb2.cell 1, hRb2.cell 2⟩
                obtain ⟨w3, hw3⟩ : ∃ w3, w3 = w2.setCell ⟨r, 2, none⟩ (.bool true) := ⟨_, rfl⟩
                have hRb3 : Blk w3 r 54 #[.slice A b.length c, .int .i64 ((p + 2 : Nat) : Int), .bool true] := by rw [hw3]; simpa using hRb2.set_ 2 (.bool true)
                have hC3 : Chg w2 w3 (fun k => k = r) := by rw [hw3]; exact Chg.setCell w2 ⟨r, 2, none⟩ _
                have hown3 : Own w3 w.heap.size (.slice Ao out.length co) out := row_chgP hown2 hC3 hrl
                have hsz3 := hC3.size
                have HW3 := Lib.hid hw3
                clear hw3
                go_upto_region 11 with fail
                rw [← HW3.out]
                clear y0 y1 y2 f2
                have hC13 := hC12.thenC hC3
                go_upto_region 12 with (first | (at_builtin; refine app_one rfl (.tmp 27) (.tmp 29) rfl w.heap.size _ _ _ rfl hown3 rfl (by omega) (by omega) ?_; intro v4 w4 hown4 hg4))
                have hRb4 := hRb3.grew hown3 hrl hg4
                have hb4 := hg4.below hown3 (by omega)
                have g2 : w4.cell? ⟨r, 2, none⟩ = some (.bool true) := hRb4.cell 2
                have g3 := hRb4.free 2
                obtain ⟨A4, c4, rfl, hc4, hm4, _⟩ := hown4.shape
                unfold maxLen at hm4
                have hl4 : (out ++ [(0 : Int)]).length = out.length + 1 := by simp
                rw [hl4] at hown4 hg4 hc4 ⊢
                obtain ⟨o1, ho1⟩ : ∃ o1, out.length + 1 = o1 := ⟨_, rfl⟩
                rw [ho1] at hown4 hg4 hc4 ⊢
                have HO1 := Lib.hid ho1
                clear ho1 hl4
                go_wp2
                have hC9 : Chg w (w4.setCell ⟨r, 2, none⟩ (.bool true)) (fun k => k = r) := ((hC.thenC hC13).thenB hb4).thenC (Chg.setCell w4 ⟨r, 2, none⟩ _)
                have hown9 : Own (w4.setCell ⟨r, 2, none⟩ (.bool true)) w.heap.size (.slice A4 o1 c4) (out ++ [0]) := row_chgP hown4 (Chg.setCell w4 ⟨r, 2, none⟩ _) hrl
                have hR9 : RdAt (w4.setCell ⟨r, 2, none⟩ (.bool true)) r A c b (p + 2) true := by unfold RdAt; simpa using hRb4.set_ 2 (.bool true)
                go_roundw
                case rel => exact ⟨_, _, _, _, rfl, HT2, by have := HO1.out; simp; omega, hown9, hR9, hC9⟩
                case measure => have := HO1.out; simp [lenOf]; omega
          · have HC2 : Hid (∀ w', RdAt w' r A c b (p + 1) false → Cells w' r A (U8 b) → Calls Tryd.prog 57 #[.pointer (some ⟨r, 0, none⟩)] w' fun e w'' => e = .returned (.int .u8 0) ∧ RdAt w'' r A c b (p + 1) true ∧ Chg w' w'' (fun k => k = r)) := Lib.hid fun w' h1 h2 => next_ge r A c b (p + 1) false w' h1 h2 (by omega) hl
            have HTI : Hid (TextIs b p0 no0 (strOfNums out) (p + 1) true) := Lib.hid (HFIN.out _ _ _ (by omega) (by rw [str_size]; exact h60) (fun h => rfl) (fun _ h => by cases h) (fun _ _ => by rw [← HJ.out, drop_one (by omega)]; rfl))
            go_wp2_with fail
            refine HC1.out.mono ?_
            rintro e w1 ⟨rfl, hR1, hC1⟩
            clear z2
            have hcr1 := hcr.chgR (by omega) hC1
            have HC2' := Lib.hid (HC2.out w1 hR1 hcr1)
            go_wp2_with fail
            refine HC2'.out.mono ?_
            rintro e w2 ⟨rfl, hR2, hC2⟩
            have hC12 := hC1.thenC hC2
            have hown2 : Own w2 w.heap.size (.slice Ao out.length co) out := row_chgP hown hC12 hrl
            have hcv := conv_str Ao out co w2 hown2.cells
            clear HC1 HC2 HC2'
            go_wp2
            go_ret
            exact ⟨_, _, _, rfl, HTI.out, hR2, hC.thenC hC12⟩
        · have hxb : (x == 0) = false := by simpa using hx0
          have HT2 : Hid (TextAt b no0 X (out ++ [x]) (p + 1) (decide (60 < out.length + 1))) := Lib.hid (HT.out.go (by omega) (by rw [← HJ.out, List.drop_eq_getElem_cons hpl, HXE.out]; exact (joinT_more hx0).symm))
          go_wp2_with fail
          refine HC1.out.mono ?_
          rintro e w2 ⟨rfl, hR2, hC12⟩
          clear z2
          have hown2 : Own w2 w.heap.size (.slice Ao out.length co) out := row_chgP hown hC12 hrl
          have hsz2 := hC12.size
          have hRb2 : Blk w2 r 54 #[.slice A b.length c, .int .i64 ((p + 1 : Nat) : Int), .bool false] := hR2
          clear HC1
          have f2 := hRb2.free 2
          obtain ⟨y0, y1, y2⟩ : w2.cell? ⟨r, 0, none⟩ = some (.slice A b.length c) ∧ w2.cell? ⟨r, 1, none⟩ = some (.int .i64 ((p + 1 : Nat) : Int)) ∧ w2.cell? ⟨r, 2, none⟩ = some (.bool false) := ⟨hRb2.cell 0, hRb2.cell 1, hRb2.cell 2⟩
          go_upto_region 12 with (first | (at_builtin; refine app_one rfl (.tmp 27) (.tmp 29) rfl w.heap.size _ _ _ rfl hown2 rfl (by omega) (by omega) ?_; intro v4 w4 hown4 hg4))
          have hRb4 := hRb2.grew hown2 hrl hg4
          have hb4 := hg4.below hown2 (by omega)
          have g2 : w4.cell? ⟨r, 2, none⟩ = some (.bool false) := hRb4.cell 2
          have g3 := hRb4.free 2
          obtain ⟨A4, c4, rfl, hc4, hm4, _⟩ := hown4.shape
          unfold maxLen at hm4
          have hl4 : (out ++ [(x : Int)]).length = out.length + 1 := by simp
          rw [hl4] at hown4 hg4 hc4 ⊢
          have hdc : decide ((60 : Int) < ((out.length + 1 : Nat) : Int)) = decide (60 < out.length + 1) := by congr 1; apply propext; omega
          obtain ⟨o1, ho1⟩ : ∃ o1, out.length + 1 = o1 := ⟨_, rfl⟩
          rw [ho1] at hown4 hg4 hc4 HT2 hdc ⊢
          have HO1 := Lib.hid ho1
          clear ho1 hl4
          go_wp2
          have hC9 : Chg w (w4.setCell ⟨r, 2, none⟩ (.bool (decide (60 < o1)))) (fun k => k = r) := ((hC.thenC hC12).thenB hb4).thenC (Chg.setCell w4 ⟨r, 2, none⟩ _)
          have hown9 : Own (w4.setCell ⟨r, 2, none⟩ (.bool (decide (60 < o1)))) w.heap.size (.slice A4 o1 c4) (out ++ [x]) := row_chgP hown4 (Chg.setCell w4 ⟨r, 2, none⟩ _) hrl
          have hR9 : RdAt (w4.setCell ⟨r, 2, none⟩ (.bool (decide (60 < o1)))) r A c b (p + 1) (decide (60 < o1)) := by unfold RdAt; simpa using hRb4.set_ 2 (.bool (decide (60 < o1)))
          go_roundw
          case rel => exact ⟨_, _, _, _, rfl, HT2, by have := HO1.out; simp; omega, hown9, hR9, hC9⟩
          case measure => have := HO1.out; simp [lenOf]; omega
      · have HC1 := Lib.hid (next_ge r A c b p false wr hRr hcr (by omega) hl)
        have HC2 : Hid (∀ w', RdAt w' r A c b p true → Cells w' r A (U8 b) → Calls Tryd.prog 57 #[.pointer (some ⟨r, 0, none⟩)] w' fun e w'' => e = .returned (.int .u8 0) ∧ RdAt w'' r A c b p true ∧ Chg w' w'' (fun k => k = r)) := Lib.hid fun w' h1 h2 => next_ge r A c b p true w' h1 h2 (by omega) hl
        have HTI : Hid (TextIs b p0 no0 (strOfNums out) p true) := Lib.hid (HFIN.out _ _ _ (by omega) (by rw [str_size]; exact h60) (fun h => rfl) (fun _ h => by cases h) (fun _ _ => by rw [← HJ.out, List.drop_of_length_le (by omega)]; rfl))
        go_wp2_with fail
        refine HC1.out.mono ?_
        rintro e w1 ⟨rfl, hR1, hC1⟩
        clear z2
        have hcr1 := hcr.chgR (by omega) hC1
        have HC2' := Lib.hid (HC2.out w1 hR1 hcr1)
        go_wp2_with fail
        refine HC2'.out.mono ?_
        rintro e w2 ⟨rfl, hR2, hC2⟩
        have hC12 := hC1.thenC hC2
        have hown2 : Own w2 w.heap.size (.slice Ao out.length co) out := row_chgP hown hC12 hrl
        have hcv := conv_str Ao out co w2 hown2.cells
        clear HC1 HC2 HC2'
        go_wp2
        go_ret
        exact ⟨_, _, _, rfl, HTI.out, hR2, hC.thenC hC12⟩
end Go.Proofs.YtpnbmgfnnmmokaaDoor
