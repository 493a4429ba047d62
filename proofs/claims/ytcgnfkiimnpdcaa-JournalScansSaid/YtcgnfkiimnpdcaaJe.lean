/-
  The contract of (*Journal).Append.
-/
import Derived.Test.YtcgnfkiimnpdcaaJd
import Derived.Deep.RegionHeld3
import Derived.StillTailTactics
set_option linter.unusedVariables false
namespace Go.Proofs.Ytcgnfkiimnpdcaa
open Go.RowKit

/-- The bytes are there in every world that keeps what lies below B and what neither disk nor journal writes. -/
def KeptJ (B : Nat) (w : World) (A : Option Addr) (p : List Int) : Prop := ∀ w', Below B w w' → BKJ w w' → Cells w' w'.heap.size A (U8 p)
theorem KeptJ.of_bytes {B : Nat} {w : World} {A : Option Addr} {p : List Int} (h : Bytes w A p) : KeptJ B w A p := fun w' _ hk => (h.keep hk.b).1
theorem KeptJ.of_low {B : Nat} {w : World} {A : Option Addr} {p : List Int} (h : Cells w B A (U8 p)) : KeptJ B w A p := fun w' hb _ => (h.below hb).whole

section
variable {B : Nat} {w : World} {L : List (Nat × DS)} (h : Many B w L) (hB : B ≤ w.heap.size) {i g a : Nat} {s : DS} {j : JS} (hi : L[i]? = some (g, s)) (hj : JAt w a g j) (ha : B ≤ a)
include h hB hi hj ha
set_option maxHeartbeats 8000000 in
theorem jappend_any (A : Option Addr) (b : List Int) (c : Nat) (hk : KeptJ B w A b) (ho : Oct b) (hbc : b.length ≤ c) (hcm : c ≤ 9223372036854775807) (hE0 : 0 ≤ j.E) (hE1 : j.E ≤ 18446744073709551615) (hn : j.nxt ≤ 100000) (hr : j.rcs ≤ 100000) (hc0 : j.cnt ≤ 65536) (hf0 : j.frm ≤ 65536) (hf : s.fuse ≤ 9223372036854775807) (hp : s.pend.length ≤ 900000000) :
    Calls Try.prog 14 #[.pointer (some ⟨a, 0, none⟩), .slice A b.length c] w (JDone B L i g a (appendE s j b) w) := by
  have c6 : w.cell? ⟨a, 6, none⟩ = some (.bool j.over) := hj.cell 6
  cases hov : j.over with
  | true =>
    rw [hov] at c6
    have HE := Lib.hid (show appendE s j b = (7, s, j) by unfold appendE; rw [if_pos hov])
    clear hov
    go_enter Try.func14, Try.ntmps14
    go_wp2
    go_ret
    rw [HE.out]
    exact JDone.no h hi hj hB (Below.refl _ _)
  | false =>
  rw [hov] at c6
  by_cases hb0 : b.length = 0
  · have HE := Lib.hid (show appendE s j b = (1, s, j) by unfold appendE; rw [if_neg (by rw [hov]; decide), if_pos hb0])
    have hbb : ((b.length : Int) == 0) = true := by simpa using hb0
    clear hov
    go_enter Try.func14, Try.ntmps14
    go_wp2
    go_ret
    rw [HE.out]
    exact JDone.no h hi hj hB (Below.refl _ _)
  have hbb : ((b.length : Int) == 0) = false := by simpa using hb0
  by_cases hb1 : 8000 < b.length
  · have HE := Lib.hid (show appendE s j b = (3, s, j) by unfold appendE; rw [if_neg (by rw [hov]; decide), if_neg hb0, if_pos hb1])
    clear hov
    go_enter Try.func14, Try.ntmps14
    go_wp2
    go_ret
    rw [HE.out]
    exact JDone.no h hi hj hB (Below.refl _ _)
  have HP : Hid (∀ w : World, Calls Try.prog 22 #[.int .i64 b.length] w fun e w' => e = .returned (.int .i64 (partsN b.length)) ∧ w = w') := Lib.hid fun w => parts_any b.length w (by omega)
  have HR := Lib.hid (room_any a g j w hj (by omega) (by omega))
  have hn35 := partsN_le (n := b.length) (by omega)
  by_cases hb2 : (j.cnt : Int) - j.nxt < partsN b.length
  · have HE := Lib.hid (show appendE s j b = (6, s, j) by unfold appendE; rw [if_neg (by rw [hov]; decide), if_neg hb0, if_neg hb1, if_pos hb2])
    clear hov
    go_enter Try.func14, Try.ntmps14
    go_wp2_with (first | (go_at_call 22; refine (HP.out _).mono ?_; rintro e w1 ⟨rfl, rfl⟩) | (go_at_call 16; refine HR.out.mono ?_; rintro e w1 ⟨rfl, hb1'⟩))
    go_ret
    rw [HE.out]
    exact JDone.no h hi hj hB hb1'
  have HE := Lib.hid (show appendE s j b = doneE (putE b (partsN b.length) 0 s j) by unfold appendE; rw [if_neg (by rw [hov]; decide), if_neg hb0, if_neg hb1, if_neg hb2])
  have hil : i < L.length := by
    rcases Nat.lt_or_ge i L.length with x | x
    · exact x
    · rw [List.getElem?_eq_none x] at hi; cases hi
  have hplt : ∀ k, k < partsN b.length → 234 * k < b.length := fun k => partsN_lt
  have hls := set_same hi
  obtain ⟨n, hnn⟩ : ∃ n, partsN b.length = n := ⟨_, rfl⟩
  rw [hnn] at HP HE hb2 hn35 hplt
  have hjj : ({ j with nxt := j.nxt + 0 } : JS) = j := by cases j; rfl
  have HJ := Lib.hid hov
  clear hov hnn
  go_enter Try.func14, Try.ntmps14
  go_wp2_with (first | (go_at_call 22; refine (HP.out _).mono ?_; rintro e w1 ⟨rfl, rfl⟩) | (go_at_call 16; refine HR.out.mono ?_; rintro e w1 ⟨rfl, hb1'⟩))
  go_loopw [34] (fun x wr => ∃ (k : Nat) (t : DS), x = .int .i64 k ∧ k ≤ n ∧ putE b (n - k) k t { j with nxt := j.nxt + k } = putE b n 0 s j ∧ Many B wr (L.set i (g, t)) ∧ JAt wr a g { j with nxt := j.nxt + k } ∧ Below B w wr ∧ BKJ w wr ∧ t.fuse ≤ 9223372036854775807 ∧ t.pend.length ≤ s.pend.length + k) (fun x _ => n - (intOf x).toNat)
  case atStart => exact ⟨0, s, rfl, Nat.zero_le _, by rw [hjj]; rfl, by rw [hls]; exact h.below hb1', by rw [hjj]; exact hj.below hb1' hj.lt, hb1'.mono hB, (BKA.of_below hb1').j, hf, Nat.le_refl _⟩
  case round =>
    obtain ⟨k, t, rfl, hkn, hput, hM, hJ, hbw, hkw, htf, htp⟩ := hrel
    by_cases hlt : k < n
    · obtain ⟨m, hm⟩ : ∃ m, n - k = m + 1 := ⟨n - k - 1, by omega⟩
      have hm1 : n - (k + 1) = m := by omega
      have hp1 := hplt k hlt
      have hcells := hk wr hbw hkw
      have hBw := Nat.le_trans hB hbw.size
      obtain ⟨q, hq⟩ : ∃ q, j.nxt + k = q := ⟨_, rfl⟩
      have hq1 : j.nxt + (k + 1) = q + 1 := by omega
      have hqb : q ≤ 100035 := by omega
      rw [hm, hq] at hput
      rw [hq] at hJ
      have HQ1 := Lib.hid hq1
      have HM1 := Lib.hid hm1
      clear hq hq1 hm hm1 c6 hls hjj
      have HPU := Lib.hid hput
      clear hput
      have HCs : Hid (∀ w4 : World, Below B w w4 → BKJ w w4 → Calls Try.prog 33 #[.int .u64 j.E, .int .i64 q, .int .i64 j.rcs, .int .i64 k, .slice A b.length c] w4 fun e w' => ∃ A3 c3, e = .returned (.slice A3 (jsec j.E q j.rcs k b).length c3) ∧ Bytes w' A3 (jsec j.E q j.rcs k b) ∧ Below w4.heap.size w4 w') := Lib.hid fun w4 m1 m2 => by
        refine (jsector_any j.E q j.rcs k A b c w4 hE0 hE1 (by omega) (by omega) hp1 (by omega) hbc hcm (hk w4 m1 m2)).mono ?_
        rintro e w' ⟨v, rfl, hown, hBl⟩
        obtain ⟨A3, c3, rfl, _⟩ := hown.shape
        exact ⟨A3, c3, rfl, hown.bytes, hBl⟩
      have hwb := write_bd t (j.frm + q) (jsec j.E q j.rcs k b) htf
      have hCw : ∀ (w4 : World) (A3 : Option Addr) (c3 : Nat), Many B w4 (L.set i (g, t)) → B ≤ w4.heap.size → Bytes w4 A3 (jsec j.E q j.rcs k b) → Calls Try.prog 9 #[.pointer (some ⟨g, 0, none⟩), .int .i64 (j.frm + q), .slice A3 (jsec j.E q j.rcs k b).length c3] w4 fun e w' => e = .returned (.int .i64 (writeE t (j.frm + q) (jsec j.E q j.rcs k b)).1) ∧ Many B w' (L.set i (g, (writeE t (j.frm + q) (jsec j.E q j.rcs k b)).2)) ∧ Below B w4 w' ∧ BKA w4 w' := fun w4 A3 c3 m1 m2 m3 => by
        have := many_write (i := i) m1 m2 (List.getElem?_set_self hil) (j.frm + q) A3 (jsec j.E q j.rcs k b) c3 htf m3 (jsec_oct _ _ _ _ _ ho) (by omega) (by rw [jsec_len]; decide)
        simp only [List.set_set] at this
        exact this
      have HCw := Lib.hid hCw
      clear hCw
      have hval := writeE_val t (j.frm + q) (jsec j.E q j.rcs k b)
      obtain ⟨x, hx⟩ : ∃ x, (writeE t (j.frm + q) (jsec j.E q j.rcs k b)).1 = x := ⟨_, rfl⟩
      rw [hx] at hval HCw
      have HX := Lib.hid hx
      clear hx
      have y0 : wr.cell? ⟨a, 0, none⟩ = some (.pointer (some ⟨g, 0, none⟩)) := hJ.cell 0
      have y1 : wr.cell? ⟨a, 1, none⟩ = some (.int .i64 j.frm) := hJ.cell 1
      have y3 : wr.cell? ⟨a, 3, none⟩ = some (.int .u64 j.E) := hJ.cell 3
      have y4 : wr.cell? ⟨a, 4, none⟩ = some (.int .i64 q) := hJ.cell 4
      have y5 : wr.cell? ⟨a, 5, none⟩ = some (.int .i64 j.rcs) := hJ.cell 5
      have hws : IntKind.i64.wrap ((j.frm : Int) + (q : Int)) = (j.frm : Int) + (q : Int) := by rw [IntKind.wrap_i64]; omega
      rcases hval with rfl | hv
      · go_wp2
        go_region_held3 (fun w' => w'.cell? ⟨a, 0, none⟩ = some (.pointer (some ⟨g, 0, none⟩)) ∧ w'.cell? ⟨a, 1, none⟩ = some (.int .i64 j.frm) ∧ w'.cell? ⟨a, 3, none⟩ = some (.int .u64 j.E) ∧ w'.cell? ⟨a, 4, none⟩ = some (.int .i64 q) ∧ w'.cell? ⟨a, 5, none⟩ = some (.int .i64 j.rcs)) (go_keep)
          (first
            | (go_at_call 33; refine (HCs.out _ (by exact hbw.drew) (by exact hkw)).mono ?_; rintro e w5 ⟨A3, c3, rfl, hby5, hb5⟩; have hJ5 := hJ.drew.below hb5 hJ.drew.lt; have z0 : w5.cell? ⟨a, 0, none⟩ = some (.pointer (some ⟨g, 0, none⟩)) := hJ5.cell 0; have z1 : w5.cell? ⟨a, 1, none⟩ = some (.int .i64 j.frm) := hJ5.cell 1; have z3 : w5.cell? ⟨a, 3, none⟩ = some (.int .u64 j.E) := hJ5.cell 3; have z4 : w5.cell? ⟨a, 4, none⟩ = some (.int .i64 q) := hJ5.cell 4; have z5 : w5.cell? ⟨a, 5, none⟩ = some (.int .i64 j.rcs) := hJ5.cell 5)
            | (go_at_call 9; refine (HCw.out _ _ _ (by exact hM.drew.below hb5) (by exact Nat.le_trans hBw hb5.size) (by exact hby5)).mono ?_; rintro e w6 ⟨rfl, hM6, hb6, hk6⟩; have hJ6 := hk6.blk hJ5 free_j; have z60 : w6.cell? ⟨a, 0, none⟩ = some (.pointer (some ⟨g, 0, none⟩)) := hJ6.cell 0; have z61 : w6.cell? ⟨a, 1, none⟩ = some (.int .i64 j.frm) := hJ6.cell 1; have z63 : w6.cell? ⟨a, 3, none⟩ = some (.int .u64 j.E) := hJ6.cell 3; have z64 : w6.cell? ⟨a, 4, none⟩ = some (.int .i64 q) := hJ6.cell 4; have z65 : w6.cell? ⟨a, 5, none⟩ = some (.int .i64 j.rcs) := hJ6.cell 5))
        all_goals
          have zf := hJ6.free 4
          have hB6 := (hbw.drew.trans (hb5.mono hBw)).trans hb6
          have hK6 := (BKJ.trans (b := wr.drew) hkw (BKA.of_below hb5).j).trans hk6.j
          go_wp2
          go_round
          case rel =>
            refine ⟨k + 1, (writeE t (j.frm + q) (jsec j.E q j.rcs k b)).2, by go_num, by omega, ?_, hM6.store hJ6 free_j (by decide) 4 _, ?_, hB6.setCell (p := ⟨a, 4, none⟩) ha _, hK6.trans (BKJ.set_ hJ6 4 _), hwb.1, by omega⟩
            · rw [← HPU.out, HM1.out, HQ1.out]
              show _ = if _ then _ else _
              rw [if_pos HX.out]
            · rw [HQ1.out]
              exact hJ6.set_ 4 (.int .i64 ((q : Int) + 1))
          case measure => simp [intOf]; omega
      · have hput2 : putE b n 0 s j = (false, (writeE t (j.frm + q) (jsec j.E q j.rcs k b)).2, { frm := j.frm, cnt := j.cnt, E := j.E, nxt := q, rcs := j.rcs, over := true }) := by
          rw [← HPU.out]
          show (if _ then _ else _) = _
          rw [if_neg (by rw [HX.out]; rcases hv with rfl | rfl <;> decide)]
        have HD := Lib.hid hput2
        clear hput2 HX HPU
        rcases hv with rfl | rfl
        all_goals
        go_wp2
        go_region_held3 (fun w' => w'.cell? ⟨a, 0, none⟩ = some (.pointer (some ⟨g, 0, none⟩)) ∧ w'.cell? ⟨a, 1, none⟩ = some (.int .i64 j.frm) ∧ w'.cell? ⟨a, 3, none⟩ = some (.int .u64 j.E) ∧ w'.cell? ⟨a, 4, none⟩ = some (.int .i64 q) ∧ w'.cell? ⟨a, 5, none⟩ = some (.int .i64 j.rcs)) (go_keep)
          (first
            | (go_at_call 33; refine (HCs.out _ (by exact hbw.drew) (by exact hkw)).mono ?_; rintro e w5 ⟨A3, c3, rfl, hby5, hb5⟩; have hJ5 := hJ.drew.below hb5 hJ.drew.lt; have z0 : w5.cell? ⟨a, 0, none⟩ = some (.pointer (some ⟨g, 0, none⟩)) := hJ5.cell 0; have z1 : w5.cell? ⟨a, 1, none⟩ = some (.int .i64 j.frm) := hJ5.cell 1; have z3 : w5.cell? ⟨a, 3, none⟩ = some (.int .u64 j.E) := hJ5.cell 3; have z4 : w5.cell? ⟨a, 4, none⟩ = some (.int .i64 q) := hJ5.cell 4; have z5 : w5.cell? ⟨a, 5, none⟩ = some (.int .i64 j.rcs) := hJ5.cell 5)
            | (go_at_call 9; refine (HCw.out _ _ _ (by exact hM.drew.below hb5) (by exact Nat.le_trans hBw hb5.size) (by exact hby5)).mono ?_; rintro e w6 ⟨rfl, hM6, hb6, hk6⟩; have hJ6 := hk6.blk hJ5 free_j; have z60 : w6.cell? ⟨a, 0, none⟩ = some (.pointer (some ⟨g, 0, none⟩)) := hJ6.cell 0; have z61 : w6.cell? ⟨a, 1, none⟩ = some (.int .i64 j.frm) := hJ6.cell 1; have z63 : w6.cell? ⟨a, 3, none⟩ = some (.int .u64 j.E) := hJ6.cell 3; have z64 : w6.cell? ⟨a, 4, none⟩ = some (.int .i64 q) := hJ6.cell 4; have z65 : w6.cell? ⟨a, 5, none⟩ = some (.int .i64 j.rcs) := hJ6.cell 5))
        all_goals
          have zf := hJ6.free 6
          have z66 : w6.cell? ⟨a, 6, none⟩ = some (.bool j.over) := hJ6.cell 6
          have hB6 := (hbw.drew.trans (hb5.mono hBw)).trans hb6
          have hK6 := (BKJ.trans (b := wr.drew) hkw (BKA.of_below hb5).j).trans hk6.j
          go_wp2
          go_ret
          rw [HE.out, HD.out]
          exact ⟨rfl, hM6.store hJ6 free_j (by decide) 6 _, hJ6.set_ 6 (.bool true), hB6.setCell (p := ⟨a, 6, none⟩) ha _, hK6.trans (BKJ.set_ hJ6 6 _)⟩
    · have hkn' : k = n := by omega
      subst hkn'
      have hput2 : putE b k 0 s j = (true, t, { j with nxt := j.nxt + k }) := by
        rw [← hput, Nat.sub_self]
        rfl
      have HD := Lib.hid hput2
      clear hput2 hput
      have y5 : wr.cell? ⟨a, 5, none⟩ = some (.int .i64 j.rcs) := hJ.cell 5
      have zf := hJ.free 5
      go_wp2
      go_ret
      rw [HE.out, HD.out]
      exact ⟨rfl, hM.store hJ free_j (by decide) 5 _, hJ.set_ 5 (.int .i64 ((j.rcs : Int) + 1)), hbw.setCell (p := ⟨a, 5, none⟩) ha _, hkw.trans (BKJ.set_ hJ 5 _)⟩
end
end Go.Proofs.Ytcgnfkiimnpdcaa
