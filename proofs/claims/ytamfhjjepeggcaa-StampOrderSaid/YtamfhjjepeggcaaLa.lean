/-
  munimentlaw05.awake answers true; the walk of StampWrites.
-/
import Derived.Test.YtamfhjjepeggcaaRb
import Derived.Lib.SlBytesConst
import Derived.Outline
set_option linter.unusedVariables false
namespace Go.Proofs.Ytamfhjjepeggcaa
open Go.RowKit

theorem awake_bytes : writeL 1 [97] 5 = [1, 97, 0, 0, 255, 255, 255, 255, 255, 255, 255, 250] := by decide

theorem write_awake (A : Option Addr) (c : Nat) (w : World) (hc : Cells w w.heap.size A (U8 [97])) :
    Calls Try.prog 9 #[.agg #[.int .i64 1, .slice A 1 c, .int .u64 5]] w fun e w' => ∃ b off c', e = .returned (.tuple #[.slice (some ⟨b, off, none⟩) 12 c', .int .i64 0]) ∧ w'.cell? ⟨b, off + 11, none⟩ = some (.int .u8 250) ∧ Below w.heap.size w w' := by
  refine (write_ok 1 A [97] c 5 w (by decide) hc (by intro x hx; simp at hx; omega) (by decide) (by decide)).mono ?_
  rintro e w' ⟨v, rfl, hown, hb⟩
  rw [awake_bytes] at hown
  obtain ⟨A', c', rfl, _, _, hcell⟩ := hown.shape
  obtain ⟨b, off, rfl, _, h11⟩ := hcell 11 (.int .u8 250) rfl
  exact ⟨b, off, c', rfl, h11, hb⟩

set_option maxHeartbeats 1000000 in
theorem awake_any (w : World) : Calls Try.prog 8 #[] w fun e w' => e = .returned (.bool true) ∧ Below w.heap.size w w' := by
  have kc := fun (w : World) (C : Array Value) (n c : Nat) => Lib.run_convert_bytes_const (P := Try.prog) w 22 5 C n c Try.underlying22 Try.underlying5
  go_enter Try.func8, Try.ntmps8
  go_wp2_with fail
  refine (write_awake _ _ _ (by have := cells_mark w [97] (1, 2); simpa using this)).mono ?_
  rintro e w1 ⟨b, off, c1, rfl, h11, hb⟩
  go_wp2
  go_ret
  exact ⟨rfl, ((Below.refl _ _).alloc (Nat.le_refl _) _).trans (hb.mono (by simp))⟩

set_option maxHeartbeats 1000000 in
theorem writes_walk (sp : Int) (A : Option Addr) (l : List Int) (c : Nat) (t : Int) (w : World) (hc : Cells w w.heap.size A (U8 l)) (ho : Oct l) (hl : l.length ≤ 9223372036854775807) (ht0 : 0 ≤ t) (ht1 : t ≤ 18446744073709551615) :
    Calls Try.prog 3 #[.agg #[.int .i64 sp, .slice A l.length c, .int .u64 t]] w fun e w' => e = .returned (.bool true) ∧ Below w.heap.size w w' := by
  have hT := Three.new w (.int .i64 sp) (.slice A l.length c) (.int .u64 t) 25
  by_cases h1 : 1000 < l.length
  · go_enter Try.func3, Try.ntmps3
    go_wp2_with fail
    refine (awake_any _).mono ?_
    rintro e w1 ⟨rfl, hb1⟩
    obtain ⟨q0, q1, q2⟩ := hT.below hb1 (by simp)
    go_wp2_with fail
    refine (awake_any _).mono ?_
    rintro e w2 ⟨rfl, hb2⟩
    go_wp2
    go_ret
    exact ⟨rfl, (((Below.refl _ _).alloc (Nat.le_refl _) _).trans (hb1.mono (by simp))).trans (hb2.mono (by have := hb1.size; simp at this; omega))⟩
  · have hl' : l.length ≤ 1000 := by omega
    by_cases hz : wrongN sp l.length = 0
    · go_enter Try.func3, Try.ntmps3
      go_wp2_with fail
      refine (awake_any _).mono ?_
      rintro e w1 ⟨rfl, hb1⟩
      have hT1 := hT.below hb1 (by simp)
      obtain ⟨q0, q1, q2⟩ := hT1
      have hs1 : w.heap.size + 1 ≤ w1.heap.size := by have := hb1.size; simpa using this
      have hB1 : Below w.heap.size w w1 := ((Below.refl _ _).alloc (Nat.le_refl _) _).trans (hb1.mono (by simp))
      have hc1 : Cells w1 w.heap.size A (U8 l) := hc.below hB1
      have HZ := Lib.hid hz; clear hz
      go_wp2_with fail
      refine (write_ok sp A l c t _ HZ.out (hc1.more (by omega)) ho ht0 ht1).mono ?_
      rintro e w2 ⟨v2, rfl, hown2, hb2⟩
      obtain ⟨q0, q1, q2⟩ := Three.below ⟨q0, q1, q2⟩ hb2 (by omega)
      have hs2 := hb2.size
      have hB2 := hB1.trans (hb2.mono (by omega))
      have hc2 : Cells w2 w.heap.size A (U8 l) := hc.below hB2
      obtain ⟨A2, c2, e2, _, _, hcell2⟩ := hown2.shape
      rw [e2]
      clear e2
      go_wp2_with fail
      refine (rwrite_ok sp A l c t _ HZ.out (hc2.more (by omega)) ho ht0 ht1).mono ?_
      rintro e w3 ⟨v3, rfl, hown3, hb3⟩
      have hs3 := hb3.size
      have hB3 := hB2.trans (hb3.mono (by omega))
      obtain ⟨A3, c3, e3, _, _, hcell3⟩ := hown3.shape
      rw [e3]
      clear e3
      go_wp2_with fail
      refine (same_any A2 A3 _ _ c2 c3 _ ((hcell2.below hb3).more (by omega)) hcell3 (by have := writeL_len sp l t; omega)).mono ?_
      rintro e w4 ⟨rfl, n4, rfl⟩
      go_wp2
      go_ret
      exact ⟨ret_bool (by simp [sameB]), below_drewN hB3 _⟩
    · have hz' : (wrongN sp l.length == 0) = false := by simpa using hz
      go_enter Try.func3, Try.ntmps3
      go_wp2_with fail
      refine (awake_any _).mono ?_
      rintro e w1 ⟨rfl, hb1⟩
      have hT1 := hT.below hb1 (by simp)
      obtain ⟨q0, q1, q2⟩ := hT1
      have hs1 : w.heap.size + 1 ≤ w1.heap.size := by have := hb1.size; simpa using this
      have hB1 : Below w.heap.size w w1 := ((Below.refl _ _).alloc (Nat.le_refl _) _).trans (hb1.mono (by simp))
      go_wp2_with fail
      refine (write_no sp A l c t _ hz).mono ?_
      rintro e w2 ⟨rfl, hb2⟩
      obtain ⟨q0, q1, q2⟩ := Three.below ⟨q0, q1, q2⟩ hb2 (by omega)
      have hs2 := hb2.size
      have hB2 := hB1.trans (hb2.mono (by omega))
      go_wp2_with fail
      refine (rwrite_no sp A l c t _ hz).mono ?_
      rintro e w3 ⟨rfl, hb3⟩
      have hB3 := hB2.trans (hb3.mono (by omega))
      go_wp2_with fail
      refine (same_any none none [] [] 0 0 _ Cells.nil Cells.nil (by simp)).mono ?_
      rintro e w4 ⟨rfl, n4, rfl⟩
      go_wp2
      go_ret
      exact ⟨rfl, below_drewN hB3 _⟩
end Go.Proofs.Ytamfhjjepeggcaa
