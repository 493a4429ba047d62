/-
  JournalLimits: its walk.
-/
import Derived.Test.YtcgnfkiimnpdcaaJj
set_option linter.unusedVariables false
namespace Go.Proofs.Ytcgnfkiimnpdcaa
open Go.RowKit

theorem make_zer (k : Nat) (hk : k ≤ 100000000) : ∃ l : List Int, l.length = k ∧ l = zer k ∧ ∀ w, (Instr.makeSlice 27 (.int .i64 k) (.int .i64 k)).run Try.prog w = .ok (.slice (some ⟨w.heap.size, 0, none⟩) k k) (w.alloc (.cells (U8 l).toArray 5)) := by
  refine ⟨zer k, zer_len k, rfl, fun w => ?_⟩
  have hmc : madeCells #[.int .u8 0] k = (U8 (zer k)).toArray := by
    apply Array.ext'
    simp [madeCells, U8, zer, List.map_replicate, List.eq_replicate_iff]
    intro a _
    rw [Nat.mod_one]
    rfl
  rw [← hmc]
  exact run_make_row' 27 5 (.int .u8 0) 1 Try.underlying27 info8 rfl .i64 .i64 k (by omega) (by omega) w
theorem at16_zero : at16 zeroSec 20 = 0 := by
  kernel_rfl
/-- In an area of zeros no record is found. -/
theorem scan_zero (R : Nat → List Int) (cnt : Nat) (E : Int) (hR : ∀ k, R k = zeroSec) (f at_ num : Nat) : scanF R cnt E f at_ num = [] := by
  cases f with
  | zero => rfl
  | succ f =>
    unfold scanF
    split
    · rw [recAt_none]
      intro b hb
      have h1 := (hb.n_ (partsN_pos hb.1))
      rw [hR, at16_zero] at h1
      omega
    · rfl
theorem OwnR.none {w : World} {base : Nat} {v : Value} (h : OwnR w base v []) : ∃ A c, v = .slice A 0 c := by
  obtain ⟨A, c, vs, e, _⟩ := h.len
  exact ⟨A, c, e⟩

/-- What is answered to a record of zeros, and to none, in a new journal. -/
theorem limits_plain (s : DS) (h : HJ 40 s) (l : List Int) (h0 : 7900 ≤ l.length) (h1 : l.length ≤ 8155) :
    appendE s ⟨0, 40, 2, 0, 0, false⟩ [] = (1, s, ⟨0, 40, 2, 0, 0, false⟩) ∧ (appendE s ⟨0, 40, 2, 0, 0, false⟩ l).1 = if 8000 < l.length then 3 else 0 := by
  refine ⟨rfl, ?_⟩
  split
  · rename_i hl
    unfold appendE
    rw [if_neg (by decide), if_neg (by omega), if_pos hl]
  · rename_i hl
    obtain ⟨s', e, _⟩ := h.append (j := ⟨0, 40, 2, 0, 0, false⟩) (b := l) rfl (by omega) (by omega) (by show 0 + partsN l.length ≤ 40; unfold partsN; omega) (by decide)
    rw [e]

set_option maxHeartbeats 4000000 in
/-- The part behind the first journal. -/
theorem limits_walk (frm cnt n : Int) (w : World) (f0 : -9223372036854775808 ≤ frm) (f1 : frm ≤ 9223372036854775807) (c0 : -9223372036854775808 ≤ cnt) (c1 : cnt ≤ 9223372036854775807) (n0 : 0 ≤ n) (n1 : n ≤ 255) :
    Calls Try.prog 4 #[.int .i64 frm, .int .i64 cnt, .int .u8 n] w fun e w' => e = .returned (.bool true) ∧ Below w.heap.size w w' := by
  obtain ⟨k, rfl⟩ := Int.eq_ofNat_of_zero_le n0
  obtain ⟨l, hl, hlz, hmk⟩ := make_zer (7900 + k) (by omega)
  have hol : Oct l := by rw [hlz]; exact zer_oct _
  rw [← hl] at hmk
  have HMK : Hid (∀ w, (Instr.makeSlice 27 (.int .i64 (7900 + (k : Int))) (.int .i64 (7900 + (k : Int)))).run Try.prog w = .ok (.slice (some ⟨w.heap.size, 0, none⟩) l.length l.length) (w.alloc (.cells (U8 l).toArray 5))) := Lib.hid fun w => by
    have := hmk w
    rw [hl, show ((7900 + k : Nat) : Int) = 7900 + (k : Int) by omega] at this
    rw [hl]
    exact this
  have hl0 : 7900 ≤ l.length := by omega
  have hl1 : l.length ≤ 8155 := by omega
  have HL := Lib.hid hl
  clear hlz hmk hl
  go_enter Try.func4, Try.ntmps4
  go_wp2_with fail
  refine (awake_any w).mono ?_
  rintro e w1 ⟨rfl, hb1⟩
  go_wp2_with fail
  refine (many_new (Many.nil w.heap.size w1) hb1.size 40).mono ?_
  rintro e w2 ⟨g, rfl, m2, hb2⟩
  have hB2 := hb1.trans (hb2.mono hb1.size)
  have hs0 := HJ.new 40 (by decide) (by decide)
  obtain ⟨s0, hs⟩ : ∃ s0, s0 = newDS 40 := ⟨_, rfl⟩
  have m2' : Many w.heap.size w2 [(g, s0)] := by rw [hs]; exact m2
  rw [← hs] at hs0
  have hpn : s0.pend.length ≤ 900000000 := by rw [hs]; exact Nat.zero_le _
  have HZ : Hid (∀ n, rd s0 n = zeroSec) := Lib.hid fun n => by rw [hs]; rfl
  clear hs m2
  have hz0 : 0 ≤ s0.size := by rw [hs0.size]; decide
  have hz1 : s0.size ≤ 65536 := by rw [hs0.size]; decide
  by_cases ha : 0 ≤ frm ∧ 0 ≤ cnt ∧ frm ≤ 40 ∧ cnt ≤ 40 - frm
  · obtain ⟨a1, a2, a3, a4⟩ := ha
    obtain ⟨fr, rfl⟩ := Int.eq_ofNat_of_zero_le a1
    obtain ⟨cn, rfl⟩ := Int.eq_ofNat_of_zero_le a2
    have HN := Lib.hid (jnew_any m2' (i := 0) rfl fr cn 1 hz0 hz1 (by rw [hs0.size]; omega))
    go_wp2_with fail
    refine HN.out.mono ?_
    clear HN
    rintro e w3 ⟨rfl, rfl⟩
    obtain ⟨w3, hw3⟩ : ∃ w3, w3 = w2.alloc (.cells (jcells g ⟨fr, cn, 1, 0, 0, false⟩) 72) := ⟨_, rfl⟩
    have hb3 : Below w2.heap.size w2 w3 := by rw [hw3]; exact (Below.refl _ _).alloc (Nat.le_refl _) _
    rw [← hw3]
    clear hw3
    have m3 := m2'.below hb3
    have hB3 := hB2.trans (hb3.mono hB2.size)
    have hC := scan_any m3 hB3.size (i := 0) rfl fr cn 1 hs0.down hz0 hz1 (by rw [hs0.size]; omega) (by decide) (by decide)
    unfold ScanD at hC
    rw [scan_zero _ _ _ (fun k => HZ.out _)] at hC
    have HC := Lib.hid hC
    clear hC
    go_wp2_with fail
    refine HC.out.mono ?_
    clear HC
    rintro e w4 ⟨hlo4, v, rfl, hv⟩
    obtain ⟨A4, c4, rfl⟩ := hv.none
    obtain ⟨x, m4⟩ := Lo.many m3 hB3.size (i := 0) rfl hlo4
    have hB4 := hB3.trans (Lo.low m3 hB3.size (i := 0) rfl hlo4)
    obtain ⟨s4, hs4⟩ : ∃ s4, s4 = { s0 with a0 := x } := ⟨_, rfl⟩
    have m4' : Many w.heap.size w4 [(g, s4)] := by rw [hs4]; exact m4
    have hs4' : HJ 40 s4 := by rw [hs4]; exact ⟨hs0.size, hs0.down, hs0.fuse⟩
    have hpn4 : s4.pend.length ≤ 900000000 := by rw [hs4]; exact hpn
    clear hs4 m4 hv
    have HN := Lib.hid (jnew_any m4' (i := 0) rfl 0 40 2 (by rw [hs4'.size]; decide) (by rw [hs4'.size]; decide) (by rw [hs4'.size]; decide))
    go_wp2_with fail
    refine HN.out.mono ?_
    clear HN
    rintro e w5 ⟨rfl, rfl⟩
    obtain ⟨w5, hw5⟩ : ∃ w5, w5 = w4.alloc (.cells (jcells g ⟨0, 40, 2, 0, 0, false⟩) 72) := ⟨_, rfl⟩
    have hj5 : JAt w5 w4.heap.size g ⟨0, 40, 2, 0, 0, false⟩ := by rw [hw5]; exact Blk.new _ _ _
    have hb5 : Below w4.heap.size w4 w5 := by rw [hw5]; exact (Below.refl _ _).alloc (Nat.le_refl _) _
    rw [← hw5]
    clear hw5
    have m5 := m4'.below hb5
    have hB5 := hB4.trans (hb5.mono hB4.size)
    have ha5 : w.heap.size ≤ w4.heap.size := hB4.size
    obtain ⟨hp1, hp2⟩ := limits_plain s4 hs4' l hl0 hl1
    have hb6 : Below w5.heap.size w5 (w5.alloc (.cells #[.int .u8 1] 5)) := (Below.refl _ _).alloc (Nat.le_refl _) _
    have hC := jappend_any (m5.below hb6) (hB5.trans (hb6.mono hB5.size)).size (i := 0) rfl (hj5.below hb6 hj5.lt) ha5 none [] 0 (KeptJ.of_low Cells.nil) Oct.nil (by decide) (by decide) (by decide) (by decide) (by decide) (by decide) (by decide) (by decide) (by rw [hs4'.fuse]; decide) hpn4
    have hB6 := hB5.trans (hb6.mono hB5.size)
    unfold JDone at hC
    rw [hp1] at hC
    have HC := Lib.hid hC
    have HP2 := Lib.hid hp2
    clear hC hp1 hp2
    have HFIN : Hid (∀ w7 : World, Many w.heap.size w7 [(g, s4)] → JAt w7 w4.heap.size g ⟨0, 40, 2, 0, 0, false⟩ → w.heap.size ≤ w7.heap.size → Calls Try.prog 14 #[.pointer (some ⟨w4.heap.size, 0, none⟩), .slice (some ⟨w7.heap.size, 0, none⟩) l.length l.length] (w7.alloc (.cells (U8 l).toArray 5)) fun e w' => e = .returned (.int .i64 (if 8000 < l.length then 3 else 0)) ∧ Below w.heap.size w7 w') := Lib.hid fun w7 q1 q2 q3 => by
      have hb8 : Below w7.heap.size w7 (w7.alloc (.cells (U8 l).toArray 5)) := (Below.refl _ _).alloc (Nat.le_refl _) _
      have hby := Own.bytes (own_row w7 w7.heap.size l (Nat.le_refl _) (by unfold maxLen; omega))
      refine (jappend_any (q1.below hb8) (Nat.le_trans q3 hb8.size) (i := 0) rfl (q2.below hb8 q2.lt) ha5 _ l l.length (KeptJ.of_bytes hby) hol (Nat.le_refl _) (by omega) (by decide) (by decide) (by decide) (by decide) (by decide) (by decide) (by rw [hs4'.fuse]; decide) hpn4).mono ?_
      rintro e w' ⟨rfl, _, _, hb, _⟩
      exact ⟨by rw [HP2.out], (hb8.mono q3).trans hb⟩
    by_cases hlong : 8000 < l.length
    · have hkl : (8000 : Int) < 7900 + (k : Int) := by have := HL.out; omega
      rw [if_pos hlong] at HFIN
      have hmk := HMK.out
      go_wp2_with fail
      refine (jappend_nil _ _).mono ?_
      rintro e w6 ⟨rfl, rfl⟩
      go_wp2_with fail
      refine (jsync_nil _).mono ?_
      rintro e w6 ⟨rfl, rfl⟩
      go_wp2_with fail
      refine (room_nil _).mono ?_
      rintro e w6 ⟨rfl, rfl⟩
      go_wp2_with fail
      refine (records_nil _).mono ?_
      rintro e w6 ⟨rfl, rfl⟩
      go_wp2_with fail
      refine HC.out.mono ?_
      clear HC
      rintro e w7 ⟨rfl, m7, hj7, hb7, _⟩
      have hB7 := hB6.trans hb7
      go_wp2_with fail
      refine (HFIN.out w7 m7 hj7 hB7.size).mono ?_
      rintro e w8 ⟨rfl, hb8⟩
      go_wp2
      go_ret
      exact ⟨rfl, hB7.trans hb8⟩
    · have hkl : ¬ (8000 : Int) < 7900 + (k : Int) := by have := HL.out; omega
      rw [if_neg hlong] at HFIN
      have hmk := HMK.out
      go_wp2_with fail
      refine (jappend_nil _ _).mono ?_
      rintro e w6 ⟨rfl, rfl⟩
      go_wp2_with fail
      refine (jsync_nil _).mono ?_
      rintro e w6 ⟨rfl, rfl⟩
      go_wp2_with fail
      refine (room_nil _).mono ?_
      rintro e w6 ⟨rfl, rfl⟩
      go_wp2_with fail
      refine (records_nil _).mono ?_
      rintro e w6 ⟨rfl, rfl⟩
      go_wp2_with fail
      refine HC.out.mono ?_
      clear HC
      rintro e w7 ⟨rfl, m7, hj7, hb7, _⟩
      have hB7 := hB6.trans hb7
      go_wp2_with fail
      refine (HFIN.out w7 m7 hj7 hB7.size).mono ?_
      rintro e w8 ⟨rfl, hb8⟩
      go_wp2
      go_ret
      exact ⟨rfl, hB7.trans hb8⟩
  · have har : areaB s0.size frm cnt = false := by
      unfold areaB
      rw [hs0.size]
      exact decide_eq_false ha
    have HN := Lib.hid (jnew_no m2' (i := 0) rfl frm cnt 1 hz0 hz1 ⟨c0, c1⟩ ⟨f0, f1⟩ har)
    have HC := Lib.hid (scan_no m2' (i := 0) rfl frm cnt 1 hz0 hz1 ⟨c0, c1⟩ ⟨f0, f1⟩ har)
    have hbad : frm < 0 ∨ (0 ≤ frm ∧ cnt < 0) ∨ (0 ≤ frm ∧ 0 ≤ cnt ∧ 40 < frm) ∨ (0 ≤ frm ∧ 0 ≤ cnt ∧ frm ≤ 40 ∧ 40 - frm < cnt) := by omega
    clear har ha
    go_wp2_with fail
    refine HN.out.mono ?_
    clear HN
    rintro e w3 ⟨rfl, rfl⟩
    go_wp2_with fail
    refine HC.out.mono ?_
    clear HC
    rintro e w3 ⟨rfl, rfl⟩
    rcases hbad with h1 | ⟨h1, h2⟩ | ⟨h1, h2, h3⟩ | ⟨h1, h2, h3, h4⟩
    all_goals
      have HN := Lib.hid (jnew_any m2' (i := 0) rfl 0 40 2 (by rw [hs0.size]; decide) (by rw [hs0.size]; decide) (by rw [hs0.size]; decide))
      go_wp2_with fail
      refine HN.out.mono ?_
      clear HN
      rintro e w5 ⟨rfl, rfl⟩
      obtain ⟨w5, hw5⟩ : ∃ w5, w5 = w2.alloc (.cells (jcells g ⟨0, 40, 2, 0, 0, false⟩) 72) := ⟨_, rfl⟩
      have hj5 : JAt w5 w2.heap.size g ⟨0, 40, 2, 0, 0, false⟩ := by rw [hw5]; exact Blk.new _ _ _
      have hb5 : Below w2.heap.size w2 w5 := by rw [hw5]; exact (Below.refl _ _).alloc (Nat.le_refl _) _
      rw [← hw5]
      clear hw5
      have m5 := m2'.below hb5
      have hB5 := hB2.trans (hb5.mono hB2.size)
      have ha5 : w.heap.size ≤ w2.heap.size := hB2.size
      obtain ⟨hp1, hp2⟩ := limits_plain s0 hs0 l hl0 hl1
      have hb6 : Below w5.heap.size w5 (w5.alloc (.cells #[.int .u8 1] 5)) := (Below.refl _ _).alloc (Nat.le_refl _) _
      have hC := jappend_any (m5.below hb6) (hB5.trans (hb6.mono hB5.size)).size (i := 0) rfl (hj5.below hb6 hj5.lt) ha5 none [] 0 (KeptJ.of_low Cells.nil) Oct.nil (by decide) (by decide) (by decide) (by decide) (by decide) (by decide) (by decide) (by decide) (by rw [hs0.fuse]; decide) hpn
      have hB6 := hB5.trans (hb6.mono hB5.size)
      unfold JDone at hC
      rw [hp1] at hC
      have HC := Lib.hid hC
      have HP2 := Lib.hid hp2
      clear hC hp1 hp2
      have HFIN : Hid (∀ w7 : World, Many w.heap.size w7 [(g, s0)] → JAt w7 w2.heap.size g ⟨0, 40, 2, 0, 0, false⟩ → w.heap.size ≤ w7.heap.size → Calls Try.prog 14 #[.pointer (some ⟨w2.heap.size, 0, none⟩), .slice (some ⟨w7.heap.size, 0, none⟩) l.length l.length] (w7.alloc (.cells (U8 l).toArray 5)) fun e w' => e = .returned (.int .i64 (if 8000 < l.length then 3 else 0)) ∧ Below w.heap.size w7 w') := Lib.hid fun w7 q1 q2 q3 => by
        have hb8 : Below w7.heap.size w7 (w7.alloc (.cells (U8 l).toArray 5)) := (Below.refl _ _).alloc (Nat.le_refl _) _
        have hby := Own.bytes (own_row w7 w7.heap.size l (Nat.le_refl _) (by unfold maxLen; omega))
        refine (jappend_any (q1.below hb8) (Nat.le_trans q3 hb8.size) (i := 0) rfl (q2.below hb8 q2.lt) ha5 _ l l.length (KeptJ.of_bytes hby) hol (Nat.le_refl _) (by omega) (by decide) (by decide) (by decide) (by decide) (by decide) (by decide) (by rw [hs0.fuse]; decide) hpn).mono ?_
        rintro e w' ⟨rfl, _, _, hb, _⟩
        exact ⟨by rw [HP2.out], (hb8.mono q3).trans hb⟩
      by_cases hlong : 8000 < l.length
      · have hkl : (8000 : Int) < 7900 + (k : Int) := by have := HL.out; omega
        rw [if_pos hlong] at HFIN
        have hmk := HMK.out
        go_wp2_with fail
        refine (jappend_nil _ _).mono ?_
        rintro e w6 ⟨rfl, rfl⟩
        go_wp2_with fail
        refine (jsync_nil _).mono ?_
        rintro e w6 ⟨rfl, rfl⟩
        go_wp2_with fail
        refine (room_nil _).mono ?_
        rintro e w6 ⟨rfl, rfl⟩
        go_wp2_with fail
        refine (records_nil _).mono ?_
        rintro e w6 ⟨rfl, rfl⟩
        go_wp2_with fail
        refine HC.out.mono ?_
        clear HC
        rintro e w7 ⟨rfl, m7, hj7, hb7, _⟩
        have hB7 := hB6.trans hb7
        go_wp2_with fail
        refine (HFIN.out w7 m7 hj7 hB7.size).mono ?_
        rintro e w8 ⟨rfl, hb8⟩
        go_wp2
        go_ret
        exact ⟨rfl, hB7.trans hb8⟩
      · have hkl : ¬ (8000 : Int) < 7900 + (k : Int) := by have := HL.out; omega
        rw [if_neg hlong] at HFIN
        have hmk := HMK.out
        go_wp2_with fail
        refine (jappend_nil _ _).mono ?_
        rintro e w6 ⟨rfl, rfl⟩
        go_wp2_with fail
        refine (jsync_nil _).mono ?_
        rintro e w6 ⟨rfl, rfl⟩
        go_wp2_with fail
        refine (room_nil _).mono ?_
        rintro e w6 ⟨rfl, rfl⟩
        go_wp2_with fail
        refine (records_nil _).mono ?_
        rintro e w6 ⟨rfl, rfl⟩
        go_wp2_with fail
        refine HC.out.mono ?_
        clear HC
        rintro e w7 ⟨rfl, m7, hj7, hb7, _⟩
        have hB7 := hB6.trans hb7
        go_wp2_with fail
        refine (HFIN.out w7 m7 hj7 hB7.size).mono ?_
        rintro e w8 ⟨rfl, hb8⟩
        go_wp2
        go_ret
        exact ⟨rfl, hB7.trans hb8⟩
end Go.Proofs.Ytcgnfkiimnpdcaa
