/-
  The walks of StampReads and StampBack.
-/
import Derived.Test.YtamfhjjepeggcaaSf
set_option linter.unusedVariables false
namespace Go.Proofs.Ytamfhjjepeggcaa
open Go.RowKit

theorem read_any (A : Option Addr) (l : List Int) (c : Nat) (w : World) (hc : Cells w w.heap.size A (U8 l)) (ho : Oct l) (hl : l.length ≤ 100000000) (hcap : l.length ≤ c) (hcm : c ≤ 9223372036854775807) :
    Calls Try.prog 17 #[.slice A l.length c] w (ReadPost l w) := by
  by_cases h : l.length < 11
  · exact read_short A l c w h
  · obtain ⟨b, off, rfl, _, _⟩ := hc.form (by intro e; have : l.length = 0 := by simpa using congrArg List.length e
                                              omega)
    obtain ⟨m, hm⟩ : ∃ m, l.length = m + 11 := ⟨l.length - 11, by omega⟩
    rw [hm]
    exact read_long b off m l c w hm (by omega) (by omega) hcm hc ho
theorem rread_any (A : Option Addr) (l : List Int) (c : Nat) (w : World) (hc : Cells w w.heap.size A (U8 l)) (ho : Oct l) (hl : l.length ≤ 100000000) (hcap : l.length ≤ c) (hcm : c ≤ 9223372036854775807) :
    Calls Try.prog 18 #[.slice A l.length c] w (RReadPost l w) := by
  rcases l with _ | ⟨x, r⟩
  · exact rread_none A c w
  · obtain ⟨b, off, rfl, _, _⟩ := hc.form (by simp)
    exact rread_some b off r.length (x :: r) c w rfl (by simp at hl; omega) (by simpa using hcap) hcm hc ho

set_option maxHeartbeats 1000000 in
theorem same_key (sp t : Int) (A B : Option Addr) (l : List Int) (c d : Nat) (w : World) (ha : Cells w w.heap.size A (U8 l)) (hb : Cells w w.heap.size B (U8 l)) (hl : l.length ≤ 100000000) :
    Calls Try.prog 19 #[.agg #[.int .i64 sp, .slice A l.length c, .int .u64 t], .agg #[.int .i64 sp, .slice B l.length d, .int .u64 t]] w fun e w' => e = .returned (.bool true) ∧ Below w.heap.size w w' := by
  go_enter Try.func19, Try.ntmps19
  go_wp2_with fail
  refine (same_b A B l l c d _ ((ha.alloc (Nat.le_refl _) _).alloc (by simp) _).whole ((hb.alloc (Nat.le_refl _) _).alloc (by simp) _).whole hl).mono ?_
  rintro e w1 ⟨rfl, hb1⟩
  rw [show sameB l l = true from by simp [sameB]]
  go_wp2
  go_ret
  exact ⟨rfl, (((Below.refl _ _).alloc (Nat.le_refl _) _).alloc (by simp) _).trans (hb1.mono (by simp; omega))⟩

set_option maxHeartbeats 1000000 in
theorem reads_walk (A : Option Addr) (l : List Int) (c : Nat) (w : World) (hc : Cells w w.heap.size A (U8 l)) (ho : Oct l) (hcl : l.length ≤ c ∧ c ≤ 9223372036854775807) :
    Calls Try.prog 5 #[.slice A l.length c] w fun e w' => e = .returned (.bool true) ∧ Below w.heap.size w w' := by
  by_cases h1 : 1000 < l.length
  · go_enter Try.func5, Try.ntmps5
    go_wp2_with fail
    refine (awake_any _).mono ?_
    rintro e w1 ⟨rfl, hb1⟩
    go_wp2_with fail
    refine (awake_any _).mono ?_
    rintro e w2 ⟨rfl, hb2⟩
    go_wp2
    go_ret
    exact ⟨rfl, hb1.trans (hb2.mono hb1.size)⟩
  · have hl : l.length ≤ 1000 := by omega
    go_enter Try.func5, Try.ntmps5
    go_wp2_with fail
    refine (awake_any _).mono ?_
    rintro e w1 ⟨rfl, hb1⟩
    have hs1 := hb1.size
    go_wp2_with fail
    refine (read_any A l c _ ((hc.below hb1).more hs1) ho (by omega) hcl.1 hcl.2).mono ?_
    rintro e w2 (⟨hk, A2, c2, rfl, hc2, hb2⟩ | ⟨hk, rfl, hb2⟩)
    · have hs2 := hb2.size
      have hB2 := hb1.trans (hb2.mono hs1)
      have hnl : (nmOf l).length ≤ 100000000 := by
        have := loose_len ((l.take (l.length - 10)).drop 1)
        unfold nmOf
        simp only [List.length_drop, List.length_take] at this
        omega
      have HK := Lib.hid hk; clear hk
      have hT := Three.new w2 (.int .i64 (spOf l)) (.slice A2 (nmOf l).length c2) (.int .u64 (tmOf l)) 25
      go_wp2_with fail
      refine (rread_any A l c _ (((hc.below hB2).alloc (by omega) _).whole) ho (by omega) hcl.1 hcl.2).mono ?_
      rintro e w3 hpost
      unfold RReadPost at hpost
      rw [rkey_key l ho, if_pos HK.out] at hpost
      obtain ⟨A3, c3, rfl, hc3, hb3⟩ := hpost
      have hs3 : w2.heap.size + 1 ≤ w3.heap.size := by have := hb3.size; simpa using this
      have hb3' : Below w2.heap.size w2 w3 := ((Below.refl _ _).alloc (Nat.le_refl _) _).trans (hb3.mono (by simp))
      obtain ⟨q0, q1, q2⟩ := hT.below hb3 (by simp)
      have q0' := fun o => (World.cell?_alloc_lt w3 o ⟨w2.heap.size, 0, none⟩ (by show w2.heap.size < _; omega)).trans q0
      have q1' := fun o => (World.cell?_alloc_lt w3 o ⟨w2.heap.size, 1, none⟩ (by show w2.heap.size < _; omega)).trans q1
      have q2' := fun o => (World.cell?_alloc_lt w3 o ⟨w2.heap.size, 2, none⟩ (by show w2.heap.size < _; omega)).trans q2
      go_wp2_with fail
      refine (same_key _ _ A2 A3 _ c2 c3 _ ((hc2.below hb3').alloc (by omega) _).whole (hc3.alloc (Nat.le_refl _) _).whole hnl).mono ?_
      rintro e w4 ⟨rfl, hb4⟩
      go_wp2
      go_ret
      exact ⟨rfl, ((hB2.trans (hb3'.mono (by omega))).alloc (by omega) _).trans (hb4.mono (by simp; omega))⟩
    · have hs2 := hb2.size
      have hB2 := hb1.trans (hb2.mono hs1)
      have HK := Lib.hid hk; clear hk
      have hT := Three.new w2 (.int .i64 0) (.slice none 0 0) (.int .u64 0) 25
      go_wp2_with fail
      refine (rread_any A l c _ (((hc.below hB2).alloc (by omega) _).whole) ho (by omega) hcl.1 hcl.2).mono ?_
      rintro e w3 hpost
      unfold RReadPost at hpost
      rw [rkey_key l ho, if_neg HK.out] at hpost
      obtain ⟨rfl, hb3⟩ := hpost
      have hs3 : w2.heap.size + 1 ≤ w3.heap.size := by have := hb3.size; simpa using this
      have hb3' : Below w2.heap.size w2 w3 := ((Below.refl _ _).alloc (Nat.le_refl _) _).trans (hb3.mono (by simp))
      obtain ⟨q0, q1, q2⟩ := hT.below hb3 (by simp)
      have q0' := fun o => (World.cell?_alloc_lt w3 o ⟨w2.heap.size, 0, none⟩ (by show w2.heap.size < _; omega)).trans q0
      have q1' := fun o => (World.cell?_alloc_lt w3 o ⟨w2.heap.size, 1, none⟩ (by show w2.heap.size < _; omega)).trans q1
      have q2' := fun o => (World.cell?_alloc_lt w3 o ⟨w2.heap.size, 2, none⟩ (by show w2.heap.size < _; omega)).trans q2
      go_wp2_with fail
      refine (same_key 0 0 none none [] 0 0 _ Cells.nil Cells.nil (by simp)).mono ?_
      rintro e w4 ⟨rfl, hb4⟩
      go_wp2
      go_ret
      exact ⟨rfl, ((hB2.trans (hb3'.mono (by omega))).alloc (by omega) _).trans (hb4.mono (by simp; omega))⟩

set_option maxHeartbeats 4000000 in
theorem back_walk (sp : Int) (A : Option Addr) (l : List Int) (c : Nat) (t : Int) (B : Option Addr) (b : List Int) (d : Nat) (w : World) (hc : Cells w w.heap.size A (U8 l)) (ho : Oct l) (hl : l.length ≤ 9223372036854775807) (ht0 : 0 ≤ t) (ht1 : t ≤ 18446744073709551615)
    (hcb : Cells w w.heap.size B (U8 b)) (hob : Oct b) (hbd : b.length ≤ d ∧ d ≤ 9223372036854775807) :
    Calls Try.prog 6 #[.agg #[.int .i64 sp, .slice A l.length c, .int .u64 t], .slice B b.length d] w fun e w' => e = .returned (.bool true) ∧ Below w.heap.size w w' := by
  have hT := Three.new w (.int .i64 sp) (.slice A l.length c) (.int .u64 t) 25
  by_cases h1 : 1000 < l.length
  · go_enter Try.func6, Try.ntmps6
    go_wp2_with fail
    refine (awake_any _).mono ?_
    rintro e w1 ⟨rfl, hb1⟩
    obtain ⟨q0, q1, q2⟩ := hT.below hb1 (by simp)
    go_wp2_with fail
    refine (awake_any _).mono ?_
    rintro e w2 ⟨rfl, hb2⟩
    go_wp2
    go_ret
    exact ⟨rfl, (((Below.refl _ _).alloc (Nat.le_refl _) _).trans (hb1.mono (by simp))).trans (hb2.mono (by have := hb1.size; simp at this; omega))⟩
  by_cases h2 : 1000 < b.length
  · go_enter Try.func6, Try.ntmps6
    go_wp2_with fail
    refine (awake_any _).mono ?_
    rintro e w1 ⟨rfl, hb1⟩
    obtain ⟨q0, q1, q2⟩ := hT.below hb1 (by simp)
    go_wp2_with fail
    refine (awake_any _).mono ?_
    rintro e w2 ⟨rfl, hb2⟩
    go_wp2
    go_ret
    exact ⟨rfl, (((Below.refl _ _).alloc (Nat.le_refl _) _).trans (hb1.mono (by simp))).trans (hb2.mono (by have := hb1.size; simp at this; omega))⟩
  have hl' : l.length ≤ 1000 := by omega
  have hb' : b.length ≤ 1000 := by omega
  by_cases hz : wrongN sp l.length = 0
  · have HZ := Lib.hid hz; clear hz
    go_enter Try.func6, Try.ntmps6
    go_wp2_with fail
    refine (awake_any _).mono ?_
    rintro e w1 ⟨rfl, hb1⟩
    obtain ⟨q0, q1, q2⟩ := hT.below hb1 (by simp)
    have hs1 : w.heap.size + 1 ≤ w1.heap.size := by have := hb1.size; simpa using this
    have hB1 : Below w.heap.size w w1 := ((Below.refl _ _).alloc (Nat.le_refl _) _).trans (hb1.mono (by simp))
    go_wp2_with fail
    refine (write_ok sp A l c t _ HZ.out ((hc.below hB1).whole) ho ht0 ht1).mono ?_
    rintro e w2 ⟨v2, rfl, hown2, hb2⟩
    obtain ⟨q0, q1, q2⟩ := Three.below ⟨q0, q1, q2⟩ hb2 (by omega)
    have hs2 := hb2.size
    have hB2 := hB1.trans (hb2.mono (by omega))
    obtain ⟨A2, c2, e2, hlc2, hcm2, hcell2⟩ := hown2.shape
    subst e2
    unfold maxLen at hcm2
    have hlw := writeL_len sp l t
    obtain ⟨k0, k1, k2⟩ := wrongN_ok HZ.out
    go_wp2_with fail
    refine (read_any A2 (writeL sp l t) c2 _ hcell2 (oct_write k0 k1 ho) (by omega) hlc2 hcm2).mono ?_
    have hpw := parts_write sp l t ht0 ht1
    rintro e w3 (⟨hk, A3, c3, rfl, hc3, hb3⟩ | ⟨hk, rfl, hb3⟩)
    case inr => exact absurd (isKey_write sp l t ht0 ht1 HZ.out) hk
    rw [hpw.2.1] at hc3
    rw [hpw.1, hpw.2.1, hpw.2.2]
    clear hpw hk
    have hs3 := hb3.size
    have hB3 := hB2.trans (hb3.mono (by omega))
    obtain ⟨q0, q1, q2⟩ := Three.below ⟨q0, q1, q2⟩ hb3 (by omega)
    have hT3 := Three.new w3 (.int .i64 sp) (.slice A3 l.length c3) (.int .u64 t) 25
    have q0' := fun o => (World.cell?_alloc_lt w3 o ⟨w.heap.size, 0, none⟩ (by show w.heap.size < _; omega)).trans q0
    have q1' := fun o => (World.cell?_alloc_lt w3 o ⟨w.heap.size, 1, none⟩ (by show w.heap.size < _; omega)).trans q1
    have q2' := fun o => (World.cell?_alloc_lt w3 o ⟨w.heap.size, 2, none⟩ (by show w.heap.size < _; omega)).trans q2
    obtain ⟨y0, y1, y2⟩ := hT3
    go_wp2_with fail
    refine (same_key sp t A3 A l c3 c _ (hc3.alloc (Nat.le_refl _) _).whole ((hc.below hB3).alloc (by omega) _).whole (by omega)).mono ?_
    rintro e w4 ⟨rfl, hb4⟩
    have hs4 : w3.heap.size + 1 ≤ w4.heap.size := by have := hb4.size; simpa using this
    have hBX : Below w.heap.size w w4 := (hB3.alloc (by omega) _).trans (hb4.mono (by simp; omega))
    have hrd := read_any B b d _ ((hcb.below hBX).whole) hob (by omega) hbd.1 hbd.2
    go_wp2_with fail
    refine hrd.mono ?_
    clear hrd
    rintro e w6 (⟨hk, A6, c6, rfl, hc6, hb6⟩ | ⟨hk, rfl, hb6⟩)
    · have hs6 := hb6.size
      have hB6 := hBX.trans (hb6.mono (by omega))
      have HK := Lib.hid hk; clear hk
      have hT6 := Three.new w6 (.int .i64 (spOf b)) (.slice A6 (nmOf b).length c6) (.int .u64 (tmOf b)) 25
      have hon6 : Oct (nmOf b) := by unfold nmOf; exact loose_oct _ ((hob.take _).drop _)
      have htb := tm_bd b hob (by have := HK.out.1; omega)
      obtain ⟨z0, z1, z2⟩ := hT6
      go_wp2_with fail
      refine (write_ok (spOf b) A6 (nmOf b) c6 (tmOf b) _ HK.out.2.1 ((hc6.alloc (Nat.le_refl _) _).whole) hon6 htb.1 htb.2).mono ?_
      rw [HK.out.2.2]
      rintro e w7 ⟨v7, rfl, hown7, hb7⟩
      obtain ⟨A7, c7, e7, _, _, hcell7⟩ := hown7.shape
      subst e7
      have hs7 : w6.heap.size + 1 ≤ w7.heap.size := by have := hb7.size; simpa using this
      have hB7 : Below w.heap.size w w7 := (hB6.alloc (by omega) _).trans (hb7.mono (by simp; omega))
      go_wp2_with fail
      refine (same_b B A7 b b d c7 _ ((hcb.below hB7).whole) hcell7 (by omega)).mono ?_
      rintro e w8 ⟨rfl, hb8⟩
      rw [show sameB b b = true from by simp [sameB]]
      go_wp2
      go_ret
      exact ⟨rfl, hB7.trans (hb8.mono (by omega))⟩
    · have hs6 := hb6.size
      have hB6 := hBX.trans (hb6.mono (by omega))
      have hT6 := Three.new w6 (.int .i64 0) (.slice none 0 0) (.int .u64 0) 25
      obtain ⟨z0, z1, z2⟩ := hT6
      go_wp2
      go_ret
      exact ⟨rfl, hB6.alloc (by omega) _⟩
  · have hzb : (wrongN sp l.length == 0) = false := by simpa using hz
    go_enter Try.func6, Try.ntmps6
    go_wp2_with fail
    refine (awake_any _).mono ?_
    rintro e w1 ⟨rfl, hb1⟩
    obtain ⟨q0, q1, q2⟩ := hT.below hb1 (by simp)
    have hs1 : w.heap.size + 1 ≤ w1.heap.size := by have := hb1.size; simpa using this
    have hB1 : Below w.heap.size w w1 := ((Below.refl _ _).alloc (Nat.le_refl _) _).trans (hb1.mono (by simp))
    go_wp2_with fail
    refine (write_no sp A l c t _ hz).mono ?_
    rintro e w4 ⟨rfl, hb4⟩
    have hs4 := hb4.size
    have hBX : Below w.heap.size w w4 := hB1.trans (hb4.mono (by omega))
    have hrd := read_any B b d _ ((hcb.below hBX).whole) hob (by omega) hbd.1 hbd.2
    go_wp2_with fail
    refine hrd.mono ?_
    clear hrd
    rintro e w6 (⟨hk, A6, c6, rfl, hc6, hb6⟩ | ⟨hk, rfl, hb6⟩)
    · have hs6 := hb6.size
      have hB6 := hBX.trans (hb6.mono (by omega))
      have HK := Lib.hid hk; clear hk
      have hT6 := Three.new w6 (.int .i64 (spOf b)) (.slice A6 (nmOf b).length c6) (.int .u64 (tmOf b)) 25
      have hon6 : Oct (nmOf b) := by unfold nmOf; exact loose_oct _ ((hob.take _).drop _)
      have htb := tm_bd b hob (by have := HK.out.1; omega)
      obtain ⟨z0, z1, z2⟩ := hT6
      go_wp2_with fail
      refine (write_ok (spOf b) A6 (nmOf b) c6 (tmOf b) _ HK.out.2.1 ((hc6.alloc (Nat.le_refl _) _).whole) hon6 htb.1 htb.2).mono ?_
      rw [HK.out.2.2]
      rintro e w7 ⟨v7, rfl, hown7, hb7⟩
      obtain ⟨A7, c7, e7, _, _, hcell7⟩ := hown7.shape
      subst e7
      have hs7 : w6.heap.size + 1 ≤ w7.heap.size := by have := hb7.size; simpa using this
      have hB7 : Below w.heap.size w w7 := (hB6.alloc (by omega) _).trans (hb7.mono (by simp; omega))
      go_wp2_with fail
      refine (same_b B A7 b b d c7 _ ((hcb.below hB7).whole) hcell7 (by omega)).mono ?_
      rintro e w8 ⟨rfl, hb8⟩
      rw [show sameB b b = true from by simp [sameB]]
      go_wp2
      go_ret
      exact ⟨rfl, hB7.trans (hb8.mono (by omega))⟩
    · have hs6 := hb6.size
      have hB6 := hBX.trans (hb6.mono (by omega))
      have hT6 := Three.new w6 (.int .i64 0) (.slice none 0 0) (.int .u64 0) 25
      obtain ⟨z0, z1, z2⟩ := hT6
      go_wp2
      go_ret
      exact ⟨rfl, hB6.alloc (by omega) _⟩
end Go.Proofs.Ytamfhjjepeggcaa
