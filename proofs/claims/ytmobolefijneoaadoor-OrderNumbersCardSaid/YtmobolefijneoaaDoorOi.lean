/-
  munimentlaw03.letters; OrderNumbers' arguments.
-/
import Derived.Test.YtmobolefijneoaaDoorWd
import Derived.Laws.BytesArg
import Derived.Shelf.Bytes.SlSmallAll
set_option linter.unusedVariables false
namespace Go.Proofs.YtmobolefijneoaaDoor
open Go.ChangeShapes Go.WideShapes Go.ChangeAt Go.RowKit Go.Joins Go.Deep

theorem conv_str (A : Option Addr) (a : List Int) (c : Nat) (w : World) (ha : Cells w w.heap.size A (U8 a)) :
    (convert 44 9 (.slice A a.length c)).run Tryd.prog w = .ok (.string (strOfNums a)) w := by
  rcases a with _ | ⟨x, r⟩
  · exact run_convert_bytes_zero w 44 5 Tryd.underlying44 Tryd.underlying5 A c 9 Tryd.underlying9
  · obtain ⟨b, off, rfl, _, hc⟩ := ha.form (by simp)
    refine run_convert_bytes_arg (P := Tryd.prog) w 44 5 Tryd.underlying44 Tryd.underlying5 b off _ c (x :: r) rfl (fun i hi => ?_) 9 Tryd.underlying9
    have e : (U8 (x :: r))[i]? = some (.int .u8 ((x :: r)[i]'hi)) := by rw [U8, List.getElem?_map, List.getElem?_eq_getElem hi]; rfl
    rw [hc i _ e, List.getD_eq_getElem?_getD, List.getElem?_eq_getElem hi]
    rfl
theorem text_small {l : List Int} (h : ∀ x ∈ l, 0 ≤ x ∧ x ≤ 127) (hl : l.length ≤ 60) : TextP (strOfNums l) := by
  refine ⟨by show (strOfNums l).data.size ≤ 60; rw [← Array.length_toList, strOfNums_data]; simpa using hl, ?_⟩
  rw [strOfNums_data]
  clear hl
  induction l with
  | nil => rfl
  | cons x r ih =>
    have hx := h x (.head _)
    rw [List.map_cons, Lib.validD_cons _ _ (by simp; omega)]
    exact ih fun y hy => h y (.tail _ hy)
theorem str_size {l : List Int} : (strOfNums l).size = l.length := by
  show (strOfNums l).data.size = _
  rw [← Array.length_toList, strOfNums_data]; simp
/-- The letters of some bytes. -/
def letL : List Int → List Int
  | [] => []
  | x :: r => (if 0 < x % 5 then [97 + x % 5] else []) ++ letL r
theorem letL_len : ∀ l : List Int, (letL l).length ≤ l.length
  | [] => Nat.le_refl _
  | x :: r => by
    have := letL_len r
    rw [letL, List.length_append, List.length_cons]
    split <;> simp <;> omega
theorem letL_range : ∀ l : List Int, ∀ x ∈ letL l, 98 ≤ x ∧ x ≤ 101
  | [], x, h => by cases h
  | y :: r, x, h => by
    rw [letL] at h
    rcases List.mem_append.1 h with h | h
    · split at h
      · simp at h; subst h; omega
      · cases h
    · exact letL_range r x h
theorem letL_text (x y z : Int) : TextP (strOfNums (letL [x, y, z])) :=
  text_small (fun t ht => by have := letL_range _ t ht; omega) (Nat.le_trans (letL_len _) (by simp))
theorem letL_size (x y z : Int) : (strOfNums (letL [x, y, z])).size ≤ 3 := by rw [str_size]; exact letL_len _
set_option maxHeartbeats 4000000 in
theorem letters_any (x y z : Int) (w : World) (hx : 0 ≤ x ∧ x ≤ 255) (hy : 0 ≤ y ∧ y ≤ 255) (hz : 0 ≤ z ∧ z ≤ 255) :
    Calls Tryd.prog 15 #[.agg #[.int .u8 x, .int .u8 y, .int .u8 z]] w fun e w' => e = .returned (.string (strOfNums (letL [x, y, z]))) ∧ Below w.heap.size w w' := by
  obtain ⟨X, hX⟩ : ∃ X, letL [x, y, z] = X := ⟨_, rfl⟩
  rw [hX]
  have HLX : Hid ([] ++ letL ([x, y, z].drop 0) = X) := Lib.hid hX
  clear hX
  obtain ⟨W, hW⟩ : ∃ W, W = w.alloc (.cells #[.int .u8 x, .int .u8 y, .int .u8 z] 33) := ⟨_, rfl⟩
  have hB0 : Below w.heap.size w W := by rw [hW]; exact (Below.refl _ _).alloc (Nat.le_refl _) _
  have hF : Blk W w.heap.size 33 #[.int .u8 x, .int .u8 y, .int .u8 z] := by rw [hW]; exact Blk.new w _ _
  have HX := Lib.hid hx
  have HY := Lib.hid hy
  have HZ := Lib.hid hz
  have HW := Lib.hid hW
  clear hW hx hy hz
  go_enter Tryd.func15, Tryd.ntmps15
  go_wp2
  rw [← HW.out]
  go_loopw [3, 4] (fun v i wr => ∃ (q : Nat) (l : List Int), i = .int .i64 q ∧ q ≤ 3 ∧ l.length ≤ q ∧ Hid (l ++ letL ([x, y, z].drop q) = X) ∧ Own wr W.heap.size v l ∧ Below W.heap.size W wr) (fun _ i _ => 3 - (RowKit.intOf i).toNat)
  case atStart => exact ⟨0, [], rfl, by omega, by simp, HLX, Own.nil _ _, Below.refl _ _⟩
  case round =>
    obtain ⟨q, l, rfl, hq, hl, HL, hown, hB⟩ := hrel
    have hFr := hF.below hB hF.lt
    by_cases hlt : q < 3
    · have hqI : (q : Int) < 3 := by omega
      have hq0 : (0 : Int) ≤ (q : Int) := by omega
      obtain ⟨c, hc, hcb, hdr⟩ : ∃ c : Int, wr.cell? ⟨w.heap.size, 0 + q, none⟩ = some (.int .u8 c) ∧ (0 ≤ c ∧ c ≤ 255) ∧ [x, y, z].drop q = c :: [x, y, z].drop (q + 1) := by
        rw [Nat.zero_add]
        obtain rfl | rfl | rfl : q = 0 ∨ q = 1 ∨ q = 2 := by omega
        · exact ⟨x, hFr.cell 0, HX.out, rfl⟩
        · exact ⟨y, hFr.cell 1, HY.out, rfl⟩
        · exact ⟨z, hFr.cell 2, HZ.out, rfl⟩
      have HN : Hid (l ++ ((if 0 < c % 5 then [97 + c % 5] else []) ++ letL ([x, y, z].drop (q + 1))) = X) := Lib.hid (by have := HL.out; rw [hdr, letL] at this; exact this)
      clear hdr HL
      have hc0 : wr.cell? ⟨w.heap.size, q, none⟩ = some (.int .u8 c) := by rw [← hc, Nat.zero_add]
      have hbase := hB.size
      by_cases hg : 0 < c % 5
      · have HL2 : Hid ((l ++ [97 + c % 5]) ++ letL ([x, y, z].drop (q + 1)) = X) := Lib.hid (by have := HN.out; rw [if_pos hg] at this; rw [List.append_assoc]; exact this)
        clear HN
        go_wp2_with (first | (at_builtin; refine app_one rfl (.tmp 14) (.tmp 20) rfl W.heap.size _ _ _ rfl hown rfl (by omega) (by omega) ?_; intro v1 w1 hown1 hg1))
        go_roundw
        case rel => exact ⟨q + 1, l ++ [97 + c % 5], by go_num, by omega, by rw [List.length_append]; show l.length + 1 ≤ q + 1; omega, HL2, hown1, hB.trans (hg1.below hown hbase)⟩
        case measure => simp [RowKit.intOf]; omega
      · have HL2 : Hid (l ++ letL ([x, y, z].drop (q + 1)) = X) := Lib.hid (by have := HN.out; rw [if_neg hg] at this; exact this)
        clear HN
        go_wp2
        go_roundw
        case rel => exact ⟨q + 1, _, by go_num, by omega, by omega, HL2, hown, hB⟩
        case measure => simp [RowKit.intOf]; omega
    · have hqI : ¬ (q : Int) < 3 := by omega
      obtain ⟨A, cp, rfl, _, _, hcl⟩ := hown.shape
      have hk := conv_str A l cp wr hcl
      go_wp2
      go_ret
      have hq3 : q = 3 := by omega
      subst hq3
      have e := HL.out
      simp only [List.drop_succ_cons, List.drop_zero, letL, List.append_nil] at e
      exact ⟨by rw [e] <;> rfl, hB0.trans (hB.mono hB0.size)⟩

theorem array2' {α : Type} {a : Array α} (h : a.size = 2) : ∃ x y, a = #[x, y] := by
  rcases a with ⟨l⟩
  match l, h with
  | [x, y], _ => exact ⟨x, y, rfl⟩
theorem array6 {α : Type} {a : Array α} (h : a.size = 6) : ∃ x0 x1 x2 x3 x4 x5, a = #[x0, x1, x2, x3, x4, x5] := by
  rcases a with ⟨l⟩
  match l, h with
  | [x0, x1, x2, x3, x4, x5], _ => exact ⟨x0, x1, x2, x3, x4, x5, rfl⟩
/-- Two numbers that came in. -/
theorem nums2_in {H : Type} {enc : TypeId × Value → H} {W : World} {base b0 : Nat} {spare : Nat → Bool} {held : Bool} {r : Reach} {v : Value} {d : DataW H} {p : List MemPlace}
    (hv : Value.okWide Tryd.prog W r b0 32 v) (h : DataW.Trod enc Tryd.prog W base spare held 32 v d p) :
    ∃ x y : Int, v = .agg #[.int .i64 x, .int .i64 y] ∧ (-9223372036854775808 ≤ x ∧ x ≤ 9223372036854775807) ∧ -9223372036854775808 ≤ y ∧ y ≤ 9223372036854775807 := by
  have hu := Tryd.underlying32
  obtain ⟨cs, rfl, hsz⟩ : ∃ cs : Array Value, v = .agg cs ∧ cs.size = 2 := by
    simp only [Value.okWide, hu] at hv
    obtain ⟨cs, h1, h2, _⟩ := hv
    exact ⟨cs, h1, h2.trans (by kernel_rfl)⟩
  obtain ⟨c0, c1, rfl⟩ := array2' hsz
  obtain ⟨fuel, hf⟩ := h
  obtain ⟨xs, m, _, _, _, hxl, hat⟩ := DataW.trod_array hu hf
  have ci : Tryd.prog.cellsOf 2 = 1 := by kernel_rfl
  rw [ci] at hat
  have h0 := hat 0 (by decide)
  have h1 := hat 1 (by decide)
  rw [List.getElem?_eq_getElem (by omega)] at h0 h1
  obtain ⟨x, ex, _, wx⟩ := DataW.trod_int Tryd.underlying2 h0
  obtain ⟨y, ey, _, wy⟩ := DataW.trod_int Tryd.underlying2 h1
  simp [Value.cells] at ex ey
  subst ex ey
  have bx := bounds_i64 wx
  have by' := bounds_i64 wy
  exact ⟨x, y, rfl, ⟨bx.1, bx.2⟩, by'.1, by'.2⟩
/-- A byte. -/
def Byte (x : Int) : Prop := 0 ≤ x ∧ x ≤ 255
theorem trip_in {H : Type} {enc : TypeId × Value → H} {W : World} {base : Nat} {spare : Nat → Bool} {held : Bool} {fuel : Nat} {c0 c1 c2 : Value} {x : DataW H × List MemPlace}
    (hf : DataW.trod enc Tryd.prog W base spare held fuel 33 [c0, c1, c2] = some x) : ∃ a b c : Int, c0 = .int .u8 a ∧ c1 = .int .u8 b ∧ c2 = .int .u8 c ∧ Byte a ∧ Byte b ∧ Byte c := by
  obtain ⟨xs, m, _, _, _, hxl, hat⟩ := DataW.trod_array Tryd.underlying33 hf
  have ci : Tryd.prog.cellsOf 5 = 1 := by kernel_rfl
  rw [ci] at hat
  have h0 := hat 0 (by decide)
  have h1 := hat 1 (by decide)
  have h2 := hat 2 (by decide)
  rw [List.getElem?_eq_getElem (by omega)] at h0 h1 h2
  obtain ⟨x, ex, _, wx⟩ := DataW.trod_int Tryd.underlying5 h0
  obtain ⟨y, ey, _, wy⟩ := DataW.trod_int Tryd.underlying5 h1
  obtain ⟨z, ez, _, wz⟩ := DataW.trod_int Tryd.underlying5 h2
  simp at ex ey ez
  subst ex ey ez
  have bx := bounds_u8 wx
  have by' := bounds_u8 wy
  have bz := bounds_u8 wz
  exact ⟨x, y, z, rfl, rfl, rfl, ⟨bx.1, bx.2⟩, ⟨by'.1, by'.2⟩, ⟨bz.1, bz.2⟩⟩
/-- Two times three bytes that came in. -/
theorem trips_in {H : Type} {enc : TypeId × Value → H} {W : World} {base b0 : Nat} {spare : Nat → Bool} {held : Bool} {r : Reach} {v : Value} {d : DataW H} {p : List MemPlace}
    (hv : Value.okWide Tryd.prog W r b0 34 v) (h : DataW.Trod enc Tryd.prog W base spare held 34 v d p) :
    ∃ x0 x1 x2 y0 y1 y2 : Int, v = .agg #[.int .u8 x0, .int .u8 x1, .int .u8 x2, .int .u8 y0, .int .u8 y1, .int .u8 y2] ∧ Byte x0 ∧ Byte x1 ∧ Byte x2 ∧ Byte y0 ∧ Byte y1 ∧ Byte y2 := by
  have hu := Tryd.underlying34
  obtain ⟨cs, rfl, hsz⟩ : ∃ cs : Array Value, v = .agg cs ∧ cs.size = 6 := by
    simp only [Value.okWide, hu] at hv
    obtain ⟨cs, h1, h2, _⟩ := hv
    exact ⟨cs, h1, h2.trans (by kernel_rfl)⟩
  obtain ⟨c0, c1, c2, c3, c4, c5, rfl⟩ := array6 hsz
  obtain ⟨fuel, hf⟩ := h
  obtain ⟨xs, m, _, _, _, hxl, hat⟩ := DataW.trod_array hu hf
  have ci : Tryd.prog.cellsOf 33 = 3 := by kernel_rfl
  rw [ci] at hat
  have h0 := hat 0 (by decide)
  have h1 := hat 1 (by decide)
  rw [List.getElem?_eq_getElem (by omega)] at h0 h1
  obtain ⟨x0, x1, x2, e0, e1, e2, g0, g1, g2⟩ := trip_in h0
  obtain ⟨y0, y1, y2, e3, e4, e5, g3, g4, g5⟩ := trip_in h1
  subst e0 e1 e2 e3 e4 e5
  exact ⟨x0, x1, x2, y0, y1, y2, rfl, g0, g1, g2, g3, g4, g5⟩
end Go.Proofs.YtmobolefijneoaaDoor
