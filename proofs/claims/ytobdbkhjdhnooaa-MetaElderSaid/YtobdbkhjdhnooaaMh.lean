/-
  MetaElder.
-/
import Derived.Test.YtobdbkhjdhnooaaMg
import Derived.Test.YtobdbkhjdhnooaaRw
set_option linter.unusedVariables false
namespace Go.Proofs.Ytobdbkhjdhnooaa
open Go.ChangeShapes Go.WideShapes Go.ChangeAt Go.RowKit Go.Joins Go.Deep

/-- Two bytes that came in. -/
theorem pair_in {H : Type} {enc : TypeId × Value → H} {W : World} {base b0 : Nat} {spare : Nat → Bool} {held : Bool} {r : Reach} {v : Value} {d : DataW H} {p : List MemPlace}
    (hv : Value.okWide Try.prog W r b0 34 v) (h : DataW.Trod enc Try.prog W base spare held 34 v d p) :
    ∃ x y : Int, v = .agg #[.int .u8 x, .int .u8 y] ∧ 0 ≤ x ∧ x ≤ 255 ∧ 0 ≤ y ∧ y ≤ 255 := by
  have hu := Try.underlying34
  obtain ⟨cs, rfl, hsz⟩ : ∃ cs : Array Value, v = .agg cs ∧ cs.size = 2 := by
    simp only [Value.okWide, hu] at hv
    obtain ⟨cs, h1, h2, _⟩ := hv
    exact ⟨cs, h1, h2.trans (by kernel_rfl)⟩
  obtain ⟨c0, c1, rfl⟩ := array2 hsz
  obtain ⟨fuel, hf⟩ := h
  obtain ⟨xs, m, _, _, _, hxl, hat⟩ := DataW.trod_array hu hf
  have ci : Try.prog.cellsOf 5 = 1 := by kernel_rfl
  rw [ci] at hat
  have h0 := hat 0 (by decide)
  have h1 := hat 1 (by decide)
  rw [List.getElem?_eq_getElem (by omega)] at h0 h1
  obtain ⟨x, ex, _, wx⟩ := DataW.trod_int Try.underlying5 h0
  obtain ⟨y, ey, _, wy⟩ := DataW.trod_int Try.underlying5 h1
  simp [Value.cells] at ex ey
  subst ex ey
  have bx := bounds_u8 wx
  have by' := bounds_u8 wy
  exact ⟨x, y, rfl, bx.1, bx.2, by'.1, by'.2⟩

/-- What is there behind two Saves. -/
theorem elder_plain (a b : Int) (x y : Int) (a0 : 0 < a) (a1 : a ≤ 18446744073709551615) (b0 : 0 < b) (b1 : b ≤ 18446744073709551615) :
    saveE (newDS 2) a [x] = (0, savedS (newDS 2) a [x]) ∧ saveE (savedS (newDS 2) a [x]) b [y] = (0, savedS (savedS (newDS 2) a [x]) b [y]) ∧
    openE (savedS (savedS (newDS 2) a [x]) b [y]) = 0 ∧ openH (savedS (savedS (newDS 2) a [x]) b [y]) = if a % 2 = b % 2 ∨ a < b then (b, [y]) else (a, [x]) := by
  have h0 := HS.new 2 (by decide) (by decide)
  obtain ⟨e1, h1⟩ := h0.save (by decide) (G := a) (p := [x]) (by omega) (by simp)
  obtain ⟨e2, h2⟩ := h1.save (by decide) (G := b) (p := [y]) (by omega) (by simp)
  obtain ⟨o1, o2, _⟩ := h2.open_ (by decide)
  refine ⟨e1, e2, o1, ?_⟩
  rw [o2, rd_saved, rd_saved, rd_saved, rd_saved, rd_new, rd_new]
  have ha := headOf_sec a [x] a0 a1 (by simp)
  have hb := headOf_sec b [y] b0 b1 (by simp)
  rcases (by omega : a % 2 = 0 ∨ a % 2 = 1) with ea | ea
  · rcases (by omega : b % 2 = 0 ∨ b % 2 = 1) with eb | eb
    · rw [ea, eb]
      simp only [if_true, if_neg (show ¬ (1 : Int) = 0 by decide)]
      rw [hb, headOf_zero, if_pos (.inl trivial)]
      exact if_neg (by show ¬ b < 0; omega)
    · rw [ea, eb]
      simp only [if_true, if_neg (show ¬ (0 : Int) = 1 by decide)]
      rw [ha, hb]
      by_cases hl : a < b
      · rw [if_pos (.inr hl)]; exact if_pos hl
      · rw [if_neg (by rintro (h | h); exact absurd h (by decide); exact hl h)]; exact if_neg hl
  · rcases (by omega : b % 2 = 0 ∨ b % 2 = 1) with eb | eb
    · rw [ea, eb]
      simp only [if_true, if_neg (show ¬ (1 : Int) = 0 by decide)]
      rw [ha, hb]
      by_cases hl : a < b
      · rw [if_pos (.inr hl)]; exact if_neg (by show ¬ b < a; omega)
      · rw [if_neg (by rintro (h | h); exact absurd h (by decide); exact hl h)]
        exact if_pos (by show b < a; rcases Int.lt_trichotomy a b with h | h | h; exact absurd h hl; (subst h; omega); exact h)
    · rw [ea, eb]
      simp only [if_true, if_neg (show ¬ (0 : Int) = 1 by decide)]
      rw [hb, headOf_zero, if_pos (.inl trivial)]
      exact if_pos (by show (0 : Int) < b; omega)

set_option maxHeartbeats 4000000 in
theorem elder_walk (a b x y : Int) (w : World) (a0 : 0 ≤ a) (a1 : a ≤ 18446744073709551615) (b0 : 0 ≤ b) (b1 : b ≤ 18446744073709551615) (x0 : 0 ≤ x) (x1 : x ≤ 255) (y0 : 0 ≤ y) (y1 : y ≤ 255) :
    Calls Try.prog 4 #[.int .u64 a, .int .u64 b, .agg #[.int .u8 x, .int .u8 y]] w fun e w' => e = .returned (.bool true) ∧ Below w.heap.size w w' := by
  have hx0 : Blk (w.alloc (.cells #[.int .u8 x, .int .u8 y] 34)) w.heap.size 34 #[.int .u8 x, .int .u8 y] := Blk.new w _ _
  have hb0 : Below w.heap.size w (w.alloc (.cells #[.int .u8 x, .int .u8 y] 34)) := (Below.refl _ _).alloc (Nat.le_refl _) _
  have HAW := Lib.hid (awake_any (w.alloc (.cells #[.int .u8 x, .int .u8 y] 34)))
  by_cases hz : a = 0 ∨ b = 0
  · by_cases ha : a = 0
    · have hab : (a == 0) = true := by simpa using ha
      clear ha hz
      go_enter Try.func4, Try.ntmps4
      go_wp2_with fail
      refine HAW.out.mono ?_
      clear HAW
      generalize w.alloc (.cells #[.int .u8 x, .int .u8 y] 34) = W0 at *
      rintro e w1 ⟨rfl, hb1⟩
      go_wp2_with fail
      refine (awake_any w1).mono ?_
      rintro e w2 ⟨rfl, hb2⟩
      go_wp2
      go_ret
      exact ⟨rfl, (hb0.trans (hb1.mono hb0.size)).trans (hb2.mono (Nat.le_trans hb0.size hb1.size))⟩
    · have hb' : b = 0 := by rcases hz with h | h; exact absurd h ha; exact h
      have hab : (a == 0) = false := by simpa using ha
      have hbb : (b == 0) = true := by simpa using hb'
      clear ha hb' hz
      go_enter Try.func4, Try.ntmps4
      go_wp2_with fail
      refine HAW.out.mono ?_
      clear HAW
      generalize w.alloc (.cells #[.int .u8 x, .int .u8 y] 34) = W0 at *
      rintro e w1 ⟨rfl, hb1⟩
      go_wp2_with fail
      refine (awake_any w1).mono ?_
      rintro e w2 ⟨rfl, hb2⟩
      go_wp2
      go_ret
      exact ⟨rfl, (hb0.trans (hb1.mono hb0.size)).trans (hb2.mono (Nat.le_trans hb0.size hb1.size))⟩
  · have hab : (a == 0) = false := by simp; omega
    have hbb : (b == 0) = false := by simp; omega
    obtain ⟨p1, p2, p3, p4⟩ := elder_plain a b x y (by omega) a1 (by omega) b1
    have P1 := Lib.hid p1
    have P2 := Lib.hid p2
    have P3 := Lib.hid p3
    have P4 := Lib.hid p4
    clear p1 p2 p3 p4 hz
    go_enter Try.func4, Try.ntmps4
    go_wp2_with fail
    refine HAW.out.mono ?_
    clear HAW
    generalize w.alloc (.cells #[.int .u8 x, .int .u8 y] 34) = W0 at *
    rintro e w1 ⟨rfl, hb1⟩
    have hB1 := hb0.trans (hb1.mono hb0.size)
    have hx1 := hx0.below hb1 hx0.lt
    have q0 : w1.cell? ⟨w.heap.size, 0, none⟩ = some (.int .u8 x) := hx1.cell 0
    have q1 : w1.cell? ⟨w.heap.size, 1, none⟩ = some (.int .u8 y) := hx1.cell 1
    go_wp2
    go_region
    all_goals
      go_wp2_with fail
      refine (many_new (Many.nil w.heap.size w1.drew) hB1.size 2).mono ?_
      rintro e w2 ⟨g, rfl, m2, hb2⟩
      have hB2 : Below w.heap.size w w2 := hB1.drew.trans (hb2.mono hB1.size)
      have hby2 : Bytes (w2.alloc (.cells #[.int .u8 x] 5)) (some ⟨w2.heap.size, 0, none⟩) [x] := Own.bytes (own_lit w2 w2.heap.size x (Nat.le_refl _))
      have hb3 : Below w2.heap.size w2 (w2.alloc (.cells #[.int .u8 x] 5)) := (Below.refl _ _).alloc (Nat.le_refl _) _
      have hc := many_save (i := 0) (m2.below hb3) (Nat.le_trans hB2.size hb3.size) rfl a (some ⟨w2.heap.size, 0, none⟩) [x] 1 a0 a1 (Kept.of_bytes hby2) (Oct.cons x0 x1 Oct.nil) (by simp) (by decide) (by decide)
      rw [P1.out, show ([x] : List Int).length = 1 from rfl] at hc
      have HC := Lib.hid hc
      have hB3 := hB2.trans (hb3.mono hB2.size)
      clear hc hby2 hb3 hb2 m2
      go_wp2_with fail
      refine HC.out.mono ?_
      clear HC
      rintro e w4 ⟨rfl, m4, hb4, _⟩
      have hB4 := hB3.trans hb4
      have hby5 : Bytes (w4.alloc (.cells #[.int .u8 y] 5)) (some ⟨w4.heap.size, 0, none⟩) [y] := Own.bytes (own_lit w4 w4.heap.size y (Nat.le_refl _))
      have hb5 : Below w4.heap.size w4 (w4.alloc (.cells #[.int .u8 y] 5)) := (Below.refl _ _).alloc (Nat.le_refl _) _
      have hc := many_save (i := 0) (m4.below hb5) (Nat.le_trans hB4.size hb5.size) rfl b (some ⟨w4.heap.size, 0, none⟩) [y] 1 b0 b1 (Kept.of_bytes hby5) (Oct.cons y0 y1 Oct.nil) (by simp) (show (-1 : Int) ≤ 9223372036854775807 by decide) (by rw [pend_saved]; exact Nat.zero_le _)
      rw [P2.out, show ([y] : List Int).length = 1 from rfl] at hc
      have HC := Lib.hid hc
      have hB5 := hB4.trans (hb5.mono hB4.size)
      clear hc hby5 hb5 hb4 m4
      go_wp2_with fail
      refine HC.out.mono ?_
      clear HC
      rintro e w6 ⟨rfl, m6, hb6, _⟩
      have hB6 := hB5.trans hb6
      have hc := many_open (i := 0) m6 hB6.size rfl
      unfold OpenP at hc
      rw [P3.out, P4.out] at hc
      have HC := Lib.hid hc
      clear hc
      by_cases hab2 : a % 2 = b % 2
      · rw [if_pos (.inl hab2)] at HC
        have ht : ((a % 2) == (b % 2)) = true := by simpa using hab2
        clear hab2
        go_wp2_with fail
        refine HC.out.mono ?_
        clear HC
        rintro e w7 ⟨A, c, rfl, hby7, _, hb7, _⟩
        have hB7 := (hB6.trans hb7).alloc (hB6.trans hb7).size (.cells #[.int .u64 b, .slice A 1 c] 30)
        obtain ⟨ba, oa, rfl, hbal, hcell⟩ := hby7.1.form (by simp)
        have r0 : w7.cell? ⟨ba, oa, none⟩ = some (.int .u8 y) := hcell 0 _ rfl
        go_wp2
        go_ret
        exact ⟨rfl, hB7⟩
      · have ht : ((a % 2) == (b % 2)) = false := by simpa using hab2
        by_cases hlt : a < b
        · rw [if_pos (.inr hlt)] at HC
          clear hab2
          go_wp2_with fail
          refine HC.out.mono ?_
          clear HC
          rintro e w7 ⟨A, c, rfl, hby7, _, hb7, _⟩
          have hB7 := (hB6.trans hb7).alloc (hB6.trans hb7).size (.cells #[.int .u64 b, .slice A 1 c] 30)
          obtain ⟨ba, oa, rfl, hbal, hcell⟩ := hby7.1.form (by simp)
          have r0 : w7.cell? ⟨ba, oa, none⟩ = some (.int .u8 y) := hcell 0 _ rfl
          go_wp2
          go_ret
          exact ⟨rfl, hB7⟩
        · rw [if_neg (by rintro (h | h); exact hab2 h; exact hlt h)] at HC
          clear hab2
          go_wp2_with fail
          refine HC.out.mono ?_
          clear HC
          rintro e w7 ⟨A, c, rfl, hby7, _, hb7, _⟩
          have hB7 := (hB6.trans hb7).alloc (hB6.trans hb7).size (.cells #[.int .u64 a, .slice A 1 c] 30)
          obtain ⟨ba, oa, rfl, hbal, hcell⟩ := hby7.1.form (by simp)
          have r0 : w7.cell? ⟨ba, oa, none⟩ = some (.int .u8 x) := hcell 0 _ rfl
          go_wp2
          go_ret
          exact ⟨rfl, hB7⟩
end Go.Proofs.Ytobdbkhjdhnooaa
