/-
  The reference's numbers and sectors: munimentref04.Big, munimentref07.big, number, Parts, Sectors.
-/
import Derived.Test.YtcgnfkiimnpdcaaJi
import Derived.RegionTactic
import Derived.Deep.RegionLaw
set_option linter.unusedVariables false
namespace Go.Proofs.Ytcgnfkiimnpdcaa
open Go.RowKit

set_option maxHeartbeats 1000000 in
theorem big_any (x : Int) (w : World) (h0 : 0 ≤ x) (h1 : x ≤ 18446744073709551615) :
    Calls Try.prog 42 #[.int .u64 x] w fun e w' => e = .returned (.slice (some ⟨w.heap.size, 0, none⟩) 8 8) ∧ w' = w.alloc (.cells (U8 (be64 x)).toArray 5) := by
  have hmk : ∀ w, (Instr.makeSlice 27 (.int .i64 8) (.int .i64 8)).run Try.prog w = .ok (.slice (some ⟨w.heap.size, 0, none⟩) 8 8) (w.alloc (.cells #[.int .u8 0, .int .u8 0, .int .u8 0, .int .u8 0, .int .u8 0, .int .u8 0, .int .u8 0, .int .u8 0] 5)) := fun _ => by kernel_rfl
  have hbe : (U8 (be64 x)).toArray = #[Value.int IntKind.u8 (x / 256 / 256 / 256 / 256 / 256 / 256 / 256 % 256), Value.int IntKind.u8 (x / 256 / 256 / 256 / 256 / 256 / 256 % 256), Value.int IntKind.u8 (x / 256 / 256 / 256 / 256 / 256 % 256), Value.int IntKind.u8 (x / 256 / 256 / 256 / 256 % 256), Value.int IntKind.u8 (x / 256 / 256 / 256 % 256), Value.int IntKind.u8 (x / 256 / 256 % 256), Value.int IntKind.u8 (x / 256 % 256), Value.int IntKind.u8 (x % 256)] := by
    have e7 : x / 72057594037927936 = x / 256 / 256 / 256 / 256 / 256 / 256 / 256 := by omega
    have e6 : x / 281474976710656 = x / 256 / 256 / 256 / 256 / 256 / 256 := by omega
    have e5 : x / 1099511627776 = x / 256 / 256 / 256 / 256 / 256 := by omega
    have e4 : x / 4294967296 = x / 256 / 256 / 256 / 256 := by omega
    have e3 : x / 16777216 = x / 256 / 256 / 256 := by omega
    have e2 : x / 65536 = x / 256 / 256 := by omega
    simp only [be64, U8, List.map_cons, List.map_nil, e7, e6, e5, e4, e3, e2]
  have H := Lib.hid hbe; clear hbe
  go_enter Try.func42, Try.ntmps42
  go_wp2
  refine wp_loop_rounds 9 ?_
  iterate 9 (rw [rounds_succ]; go_wp2)
  go_ret
  exact ⟨rfl, by rw [H.out]⟩

set_option maxHeartbeats 1000000 in
theorem rparts_any (n : Nat) (w : World) (hn : n ≤ 100000000) :
    Calls Try.prog 30 #[.int .i64 n] w fun e w' => e = .returned (.int .i64 (partsN n)) ∧ w = w' := by
  by_cases h0 : n < 1
  · have e0 : n = 0 := by omega
    subst e0
    go_enter Try.func30, Try.ntmps30
    go_wp2
    go_ret
    exact ⟨rfl, rfl⟩
  · have HP : Hid (((n : Int) + 233) / 234 = (partsN n : Int)) := Lib.hid (by
      unfold partsN
      omega)
    go_enter Try.func30, Try.ntmps30
    go_wp2
    go_ret
    refine ⟨?_, rfl⟩
    rw [← HP.out]
    rfl
theorem be64_32 (x : Int) : (be64 x).drop 4 = be32 x := rfl
theorem be64_16 (x : Int) : (be64 x).drop 6 = be16 x := rfl
set_option maxHeartbeats 1000000 in
theorem rbig4_any (x : Int) (w : World) (h0 : 0 ≤ x) (h1 : x ≤ 9223372036854775807) :
    Calls Try.prog 43 #[.int .i64 x, .int .i64 4] w fun e w' => ∃ A, e = .returned (.slice A (be32 x).length 4) ∧ Cells w' w'.heap.size A (U8 (be32 x)) ∧ Below w.heap.size w w' := by
  have HC := Lib.hid (big_any x w h0 (by omega))
  go_enter Try.func43, Try.ntmps43
  go_wp2_with (go_at_call 42; refine HC.out.mono ?_; rintro e w1 ⟨rfl, rfl⟩)
  go_ret
  refine ⟨some ⟨w.heap.size, 4, none⟩, rfl, ?_, (Below.refl _ _).alloc (Nat.le_refl _) _⟩
  have := ((cells_new w (be64 x)).subU 4).whole
  rw [be64_32] at this
  exact this
set_option maxHeartbeats 1000000 in
theorem rbig2_any (x : Int) (w : World) (h0 : 0 ≤ x) (h1 : x ≤ 9223372036854775807) :
    Calls Try.prog 43 #[.int .i64 x, .int .i64 2] w fun e w' => ∃ A, e = .returned (.slice A (be16 x).length 2) ∧ Cells w' w'.heap.size A (U8 (be16 x)) ∧ Below w.heap.size w w' := by
  have HC := Lib.hid (big_any x w h0 (by omega))
  go_enter Try.func43, Try.ntmps43
  go_wp2_with (go_at_call 42; refine HC.out.mono ?_; rintro e w1 ⟨rfl, rfl⟩)
  go_ret
  refine ⟨some ⟨w.heap.size, 6, none⟩, rfl, ?_, (Below.refl _ _).alloc (Nat.le_refl _) _⟩
  have := ((cells_new w (be64 x)).subU 6).whole
  rw [be64_16] at this
  exact this
set_option maxHeartbeats 1000000 in
theorem number2_any (b off : Nat) (x y : Int) (c : Nat) (w : World) (h0 : w.cell? ⟨b, off, none⟩ = some (.int .u8 x)) (h1 : w.cell? ⟨b, off + 1, none⟩ = some (.int .u8 y)) (hx : 0 ≤ x ∧ x ≤ 255) (hy : 0 ≤ y ∧ y ≤ 255) :
    Calls Try.prog 29 #[.slice (some ⟨b, off, none⟩) 2 c] w fun e w' => e = .returned (.int .i64 (x * 256 + y)) ∧ w = w' := by
  obtain ⟨hx0, hx1⟩ := hx
  obtain ⟨hy0, hy1⟩ := hy
  go_enter Try.func29, Try.ntmps29
  go_wp2
  refine wp_loop_rounds 3 ?_
  iterate 3 (rw [rounds_succ]; go_wp2)
  go_ret
  exact ⟨rfl, rfl⟩
theorem number_at (b off i : Nat) (s : List Int) (c : Nat) (w : World) (hc : Cells w w.heap.size (some ⟨b, off, none⟩) (U8 s)) (ho : Oct s) (hi : i + 2 ≤ s.length) :
    Calls Try.prog 29 #[.slice (some ⟨b, off + i, none⟩) 2 c] w fun e w' => e = .returned (.int .i64 (at16 s i)) ∧ w = w' := by
  have e0 := hc.knownU (show i < s.length by omega)
  have e1 := hc.knownU (show i + 1 < s.length by omega)
  have o0 := ho.at_ (List.getElem?_eq_getElem (show i < s.length by omega))
  have o1 := ho.at_ (List.getElem?_eq_getElem (show i + 1 < s.length by omega))
  have := number2_any b (off + i) _ _ c w e0 (by rw [Nat.add_assoc]; exact e1) o0 o1
  have e : (at16 s i : Int) = s[i] * 256 + s[i + 1] := by
    unfold at16
    rw [List.getD_eq_getElem?_getD, List.getD_eq_getElem?_getD, List.getElem?_eq_getElem (show i < s.length by omega), List.getElem?_eq_getElem (show i + 1 < s.length by omega)]
    simp only [Option.getD_some]
    omega
  rw [e]
  exact this
end Go.Proofs.Ytcgnfkiimnpdcaa
