/-
  MetaPlays: the walk.
-/
import Derived.Test.YtobdbkhjdhnooaaNd
import Derived.Test.YtobdbkhjdhnooaaNe
import Derived.Test.YtobdbkhjdhnooaaMj
set_option linter.unusedVariables false
namespace Go.Proofs.Ytobdbkhjdhnooaa
open Go.RowKit

theorem free_opm : Free 53 := ⟨by decide, by decide⟩
theorem openH_len (s : DS) (h0 : (rd s 0).length = 256 ∧ Oct (rd s 0)) (h1 : (rd s 1).length = 256 ∧ Oct (rd s 1)) : (openH s).2.length ≤ 1000 := by
  have a := headOf_bd (rd s 0) h0.2 h0.1
  have b := headOf_bd (rd s 1) h1.2 h1.1
  unfold openH
  split
  · simp
  · split
    · simp
    · unfold maxH
      split <;> omega

set_option maxRecDepth 8000 in
set_option maxHeartbeats 32000000 in
theorem mplays_walk (z : Int) (A : Option Addr) (l : List OpM) (c : Nat) (w : World) (z0 : 0 ≤ z) (z1 : z ≤ 255) (h : Ops w A l) (hl : l.length ≤ 9223372036854775807) :
    Calls Try.prog 7 #[.int .u8 z, .slice A l.length c] w fun e w' => e = .returned (.bool true) ∧ Below w.heap.size w w' := by
  have hmk := make256
  go_enter Try.func7, Try.ntmps7
  go_wp2_with fail
  refine (awake_any w).mono ?_
  rintro e w1 ⟨rfl, hb1⟩
  go_wp2_with fail
  refine (few_any A l c w1 (h.below hb1) hl).mono ?_
  rintro e w2 ⟨b, rfl, rfl, hfew⟩
  cases b with
  | false =>
    clear hfew
    go_wp2_with fail
    refine (awake_any w1).mono ?_
    rintro e w2 ⟨rfl, hb2⟩
    go_wp2
    go_ret
    exact ⟨rfl, hb1.trans (hb2.mono hb1.size)⟩
  | true =>
    have hl40 := hfew rfl
    clear hfew
    obtain ⟨q, hq⟩ : ∃ q, z % 5 = q := ⟨_, rfl⟩
    have hq0 : 0 ≤ q ∧ q ≤ 4 := by omega
    go_wp2_with fail
    rw [hq]
    refine (many_new (Many.nil w.heap.size w1) hb1.size q).mono ?_
    rintro e w2 ⟨g, rfl, m2, hb2⟩
    have hB2 := hb1.trans (hb2.mono hb1.size)
    go_wp2_with fail
    try rw [hq]
    refine (rnew_any q w2).mono ?_
    rintro e w3 ⟨gr, rfl, r3, hb3⟩
    have hB3 := hB2.trans (hb3.mono hB2.size)
    have m3 : Many w.heap.size w3 [(g, newDS q)] := Many.below m2 hb3
    have r3' := r3.mono hB2.size
    have st0 : St (8 * 0) (newDS q) (newR q) := ⟨Sim.new q, by show 0 ≤ min (max q 0) 65536; omega, by show min (max q 0) 65536 ≤ 65536; omega, by show (-1 : Int) ≤ _; decide, Nat.le_refl _⟩
    clear hb1 hb2 hb3 m2 r3 hB2 hq
    go_wp2
    go_loopw [5, 6, 7] (fun d v i wr => ∃ (k g : Nat) (s : DS) (gr : Nat) (r : RS), d = .pointer (some ⟨g, 0, none⟩) ∧ v = .pointer (some ⟨gr, 0, none⟩) ∧ i = .int .i64 k ∧ k ≤ l.length ∧ Many w.heap.size wr [(g, s)] ∧ RefAt wr w.heap.size gr r ∧ St (8 * k) s r ∧ Below w.heap.size w wr)
      (fun _ _ i _ => l.length - (intOf i).toNat)
    case atStart => exact ⟨0, g, _, gr, _, rfl, rfl, rfl, Nat.zero_le _, m3, r3', st0, hB3⟩
    case round =>
      clear m3 r3' st0 hB3
      obtain ⟨k, g, s, gr, r, rfl, rfl, rfl, hk, hM, hR, hS, hB⟩ := hrel
      by_cases hlt : k < l.length
      · have hgk : (k : Int) < (l.length : Int) := by omega
        obtain ⟨b, off, rfl, hb, c0, c1, c2, c3⟩ := (h.below hB).at_ hlt
        have hfit := h.fits _ (List.getElem_mem hlt)
        generalize l[k] = o at *
        obtain ⟨kd, n, Ab, lb, cb, Ak, kp, ck⟩ := o
        have hn := hfit.hn
        have hcb : Cells w w.heap.size Ab (U8 lb) := hfit.hc
        have hob : Oct lb := hfit.ho
        have hlb : lb.length ≤ 9223372036854775807 := hfit.hl
        have hck : Cells w w.heap.size Ak (kp.map Value.bool) := hfit.hkc
        have hkl : kp.length ≤ 9223372036854775807 := hfit.hkl
        simp only at c0 c1 c2 c3
        unfold I64 at hn
        simp only at hn
        clear hfit
        have hb1 : Below wr.heap.size wr (wr.alloc (.cells #[.int .i64 kd, .int .i64 n, .slice Ab lb.length cb, .slice Ak kp.length ck] 53)) := (Below.refl _ _).alloc (Nat.le_refl _) _
        have hx1 : Blk (wr.alloc (.cells #[.int .i64 kd, .int .i64 n, .slice Ab lb.length cb, .slice Ak kp.length ck] 53)) wr.heap.size 53 #[.int .i64 kd, .int .i64 n, .slice Ab lb.length cb, .slice Ak kp.length ck] := Blk.new wr _ _
        have hM1 := hM.below hb1
        have hR1 := hR.below hb1
        have hB1 := hB.trans (hb1.mono hB.size)
        have x0 : (wr.alloc (.cells #[.int .i64 kd, .int .i64 n, .slice Ab lb.length cb, .slice Ak kp.length ck] 53)).cell? ⟨wr.heap.size, 0, none⟩ = some (.int .i64 kd) := hx1.cell 0
        have x1 : (wr.alloc (.cells #[.int .i64 kd, .int .i64 n, .slice Ab lb.length cb, .slice Ak kp.length ck] 53)).cell? ⟨wr.heap.size, 1, none⟩ = some (.int .i64 n) := hx1.cell 1
        have x2 : (wr.alloc (.cells #[.int .i64 kd, .int .i64 n, .slice Ab lb.length cb, .slice Ak kp.length ck] 53)).cell? ⟨wr.heap.size, 2, none⟩ = some (.slice Ab lb.length cb) := hx1.cell 2
        have x3 : (wr.alloc (.cells #[.int .i64 kd, .int .i64 n, .slice Ab lb.length cb, .slice Ak kp.length ck] 53)).cell? ⟨wr.heap.size, 3, none⟩ = some (.slice Ak kp.length ck) := hx1.cell 3
        clear x0 x1 x2 x3 hb1
        by_cases h1 : kd = 1
        · have hkd := h1.symm
          clear h1
          subst hkd
          obtain ⟨G, hG⟩ : ∃ G, IntKind.u64.wrap n = G := ⟨_, rfl⟩
          have hG0 : 0 ≤ G ∧ G ≤ 18446744073709551615 := by rw [← hG, IntKind.wrap_u64]; omega
          obtain ⟨x, s', hsv⟩ : ∃ x s', saveE s G lb = (x, s') := ⟨_, _, rfl⟩
          have HV1 : Hid (∀ w4 : World, Many w.heap.size w4 [(g, s)] → Below w.heap.size w w4 → Calls Try.prog 10 #[.pointer (some ⟨g, 0, none⟩), .agg #[.int .u64 G, .slice Ab lb.length cb]] w4 fun e w' => e = .returned (.int .i64 x) ∧ Many w.heap.size w' [(g, s')] ∧ Below w.heap.size w4 w' ∧ BKA w4 w') := Lib.hid fun w4 m1 m2 => by
            have := many_save (i := 0) m1 m2.size rfl G Ab lb cb hG0.1 hG0.2 (Kept.of_low (hcb.below m2)) hob hlb hS.fu (by have := hS.pend; omega)
            rw [hsv] at this
            exact this
          have HV2 : Hid (∀ w4 : World, RefAt w4 w.heap.size gr r → Below w.heap.size w w4 → Calls Try.prog 20 #[.pointer (some ⟨gr, 0, none⟩), .agg #[.int .u64 G, .slice Ab lb.length cb]] w4 fun e w' => ∃ r', e = .returned (.int .i64 x) ∧ RefAt w' w.heap.size gr r' ∧ St (8 * k + 3) s' r' ∧ KR w4 w' ∧ Below w.heap.size w4 w') := Lib.hid fun w4 m1 m2 => by
            have := rsave_any m1 hS (by omega) G Ab lb cb hG0.1 hG0.2 (hcb.below m2) hob hlb
            unfold RSaveP at this
            rw [hsv] at this
            exact this
          clear hsv
          go_wp2
          go_region_held3 (fun w' => w'.cell? ⟨wr.heap.size, 1, none⟩ = some (.int .i64 n) ∧ w'.cell? ⟨wr.heap.size, 2, none⟩ = some (.slice Ab lb.length cb)) (go_keep)
            (first
              | (go_at_call 10; refine (HV1.out _ (by exact hM1.drew) (by exact hB1.drew)).mono ?_; rintro e w4 ⟨rfl, hM4, hb4, hk4⟩; have hx4 := hk4.blk hx1.drew free_opm; have p41 : w4.cell? ⟨wr.heap.size, 1, none⟩ = some (.int .i64 n) := hx4.cell 1; have p42 : w4.cell? ⟨wr.heap.size, 2, none⟩ = some (.slice Ab lb.length cb) := hx4.cell 2)
              | (go_at_call 20; refine (HV2.out _ (by exact hR1.drew.keep hk4 hb4.size) (by exact hB1.drew.trans hb4)).mono ?_; rintro e w5 ⟨r', rfl, hR5, hS5, hk5, hb5⟩; have hx5 := hk5.blk hx4 (by decide) (by decide); have p51 : w5.cell? ⟨wr.heap.size, 1, none⟩ = some (.int .i64 n) := hx5.cell 1; have p52 : w5.cell? ⟨wr.heap.size, 2, none⟩ = some (.slice Ab lb.length cb) := hx5.cell 2))
          all_goals
            obtain ⟨gT, hgT⟩ : ∃ a, a = g := ⟨_, rfl⟩
            obtain ⟨sT, hsT⟩ : ∃ a, a = s' := ⟨_, rfl⟩
            obtain ⟨grT, hgrT⟩ : ∃ a, a = gr := ⟨_, rfl⟩
            have hMT : Many w.heap.size w5 [(gT, sT)] := by rw [hgT, hsT]; exact Many.keepR hM4 hk5
            have hRT : RefAt w5 w.heap.size grT r' := by rw [hgrT]; exact hR5
            have hST : St (8 * k + 3) sT r' := by rw [hsT]; exact hS5
            have hBT : Below w.heap.size w w5 := (hB1.drew.trans hb4).trans hb5
            rw [← hgT, ← hgrT]
            clear hgT hsT hgrT hM4 hR5 hS5 hM1 hR1 hS hB1 hk4 hk5 hb4 hb5 hx4 hx5 p41 p42 p51 p52 HV1 HV2 hG hG0 hM hR hB
            have hl0 := many_len hMT (i := 0) rfl 0
            have hl1 := many_len hMT (i := 0) rfl 1
            have hoh := openH_len sT hl0 hl1
            have HO := Lib.hid (many_open (i := 0) hMT hBT.size rfl)
            have HST := Lib.hid hST
            have hkT : 8 * k + 3 ≤ 1000 := by omega
            go_wp2_with fail
            refine HO.out.mono ?_
            clear HO
            rintro e w6 ⟨A6, c6, rfl, hby6, hM6, hb6, hk6⟩
            have hR6 := hRT.keep hk6 hb6.size
            have hB6 := hBT.trans hb6
            have hb7 : Below w6.heap.size w6 (w6.alloc (.cells #[.int .u64 (openH sT).1, .slice A6 (openH sT).2.length c6] 30)) := (Below.refl _ _).alloc (Nat.le_refl _) _
            have hx7 : Blk (w6.alloc (.cells #[.int .u64 (openH sT).1, .slice A6 (openH sT).2.length c6] 30)) w6.heap.size 30 #[.int .u64 (openH sT).1, .slice A6 (openH sT).2.length c6] := Blk.new w6 _ _
            have hM7 : Many w.heap.size (w6.alloc (.cells #[.int .u64 (openH sT).1, .slice A6 (openH sT).2.length c6] 30)) [(gT, openS sT)] := Many.below hM6 hb7
            have HRO := Lib.hid (ropen_any (hR6.below hb7) HST.out hkT hl0 hl1)
            have hB7 := hB6.trans (hb7.mono hB6.size)
            have hby7 := hby6.keep (BK.of_below hb7)
            clear hMT hRT hBT hST hM6 hR6 hb6 hk6 hby6 hl0 hl1
            go_wp2_with fail
            refine HRO.out.mono ?_
            clear HRO HST
            generalize hW7 : w6.alloc (.cells #[.int .u64 (openH sT).1, .slice A6 (openH sT).2.length c6] 30) = W7 at *
            clear hW7
            rintro e w8 ⟨A8, c8, r8, rfl, hby8, hR8, hS8, hk8, hb8⟩
            have hM8 := Many.keepR hM7 hk8
            have hx8 := hk8.blk hx7 (by decide) (by decide)
            have hB8 := hB7.trans hb8
            have hby7' := hby7.keep hk8.bk
            have t0 : w8.cell? ⟨w6.heap.size, 0, none⟩ = some (.int .u64 (openH sT).1) := hx8.cell 0
            have t1 : w8.cell? ⟨w6.heap.size, 1, none⟩ = some (.slice A6 (openH sT).2.length c6) := hx8.cell 1
            have htl := hx8.lt
            have hb9 : Below w8.heap.size w8 (w8.alloc (.cells #[.int .u64 (openH sT).1, .slice A8 (openH sT).2.length c8] 44)) := (Below.refl _ _).alloc (Nat.le_refl _) _
            have HSM := Lib.hid (hsame_any (openH sT).1 A6 (openH sT).2 c6 (openH sT).1 A8 (openH sT).2 c8 _ (hby7'.keep (BK.of_below hb9)).1 (hby8.keep (BK.of_below hb9)).1 hoh)
            have hM9 := hM8.below hb9
            have hR9 := hR8.below hb9
            have hB9 := hB8.trans (hb9.mono hB8.size)
            clear hM7 hM8 hR8 hby7 hby7' hby8 hx7 hb8 hk8
            go_wp2_with fail
            refine HSM.out.mono ?_
            clear HSM
            generalize hW9 : w8.alloc (.cells #[.int .u64 (openH sT).1, .slice A8 (openH sT).2.length c8] 44) = W9 at *
            clear hW9 t0 t1 htl hx8 hb9
            rintro e w10 ⟨rfl, hb10⟩
            first | simp only [decide_true] | rw [show decide (((openH sT).1, (openH sT).2) = ((openH sT).1, (openH sT).2)) = true from decide_eq_true rfl]
            have hM10 := hM9.below hb10
            have hR10 := hR9.below hb10
            have hB10 := hB9.trans (hb10.mono hB9.size)
            have HP1 := Lib.hid (many_pending (i := 0) (L := [(gT, openS sT)]) hM10 rfl)
            go_wp2_with fail
            refine HP1.out.mono ?_
            clear HP1
            rintro e w11 ⟨rfl, rfl⟩
            have hp2 := rpending_any w.heap.size grT r8 w10 hR10 hS8.sim.le (by have := hS8.len; omega)
            rw [hS8.sim.pending] at hp2
            have HP2 := Lib.hid hp2
            clear hp2
            go_wp2_with fail
            refine HP2.out.mono ?_
            clear HP2
            rintro e w12 ⟨rfl, hk12, hb12, hR12⟩
            go_wp2
            go_roundw
            case rel => exact ⟨k + 1, gT, openS sT, grT, r8, rfl, rfl, by go_num, by omega, Many.keepR hM10 hk12, hR12, hS8.mono (by omega), hB10.trans hb12⟩
            case measure => simp [intOf]; omega
        by_cases h2 : kd = 2
        · have hkd := h2.symm
          clear h1 h2
          subst hkd
          have hS' := hS.fuse n hn.2
          have HC := Lib.hid (many_fuse (i := 0) hM1 hB1.size rfl n)
          go_wp2_with fail
          refine HC.out.mono ?_
          clear HC
          generalize hW1 : wr.alloc (.cells #[.int .i64 2, .int .i64 n, .slice Ab lb.length cb, .slice Ak kp.length ck] 53) = W1 at *
          clear hW1
          rintro e w4 ⟨rfl, hM4, hb4, hk4⟩
          have hx4 := hk4.blk hx1 free_opm
          have p41 : w4.cell? ⟨wr.heap.size, 1, none⟩ = some (.int .i64 n) := hx4.cell 1
          have hR4 := hR1.keep hk4 hb4.size
          obtain ⟨vp, ps, hr⟩ := hR4
          have q3 : w4.cell? ⟨gr, 3, none⟩ = some (.int .i64 r.fuse) := hr.blk.cell 3
          have z3 := hr.blk.free 3
          have HSF := Lib.hid (fun v : Int => hr.set_ (r' := { r with fuse := v }) 3 (.int .i64 v) rfl rfl)
          have HKF := Lib.hid (fun v : Int => hr.kr 3 (.int .i64 v))
          have hB4 := hB1.trans hb4
          have hbr := hr.base
          have M4 : Many w.heap.size w4 [(g, { s with fuse := max n (-1) })] := hM4
          clear hr hM4

          go_wp2_with fail
          obtain ⟨gT, hgT⟩ : ∃ a, a = g := ⟨_, rfl⟩
          obtain ⟨sT, hsT⟩ : ∃ a, a = { s with fuse := max n (-1) } := ⟨_, rfl⟩
          obtain ⟨grT, hgrT⟩ : ∃ a, a = gr := ⟨_, rfl⟩
          have hMT : Many w.heap.size (w4.setCell ⟨gr, 3, none⟩ (.int .i64 (max n (-1)))) [(gT, sT)] := by rw [hgT, hsT]; exact Many.keepR M4 (HKF.out (max n (-1)))
          have hRT : RefAt (w4.setCell ⟨gr, 3, none⟩ (.int .i64 (max n (-1)))) w.heap.size grT { r with fuse := max n (-1) } := by rw [hgrT]; exact ⟨vp, ps, HSF.out (max n (-1))⟩
          have hST : St (8 * k + 3) sT { r with fuse := max n (-1) } := by rw [hsT]; exact hS'.mono (by omega)
          have hBT : Below w.heap.size w (w4.setCell ⟨gr, 3, none⟩ (.int .i64 (max n (-1)))) := hB4.trans (below_set hbr _ _)
          generalize w4.setCell ⟨gr, 3, none⟩ (.int .i64 (max n (-1))) = wT at *
          rw [← hgT, ← hgrT]
          clear hgT hsT hgrT M4 HSF HKF hS' hS hM1 hR1 hB1 hk4 hb4 hx4 p41 q3 z3 hM hR hB

          have hl0 := many_len hMT (i := 0) rfl 0
          have hl1 := many_len hMT (i := 0) rfl 1
          have hoh := openH_len sT hl0 hl1
          have HO := Lib.hid (many_open (i := 0) hMT hBT.size rfl)
          have HST := Lib.hid hST
          have hkT : 8 * k + 3 ≤ 1000 := by omega
          go_wp2_with fail
          refine HO.out.mono ?_
          clear HO
          rintro e w6 ⟨A6, c6, rfl, hby6, hM6, hb6, hk6⟩
          have hR6 := hRT.keep hk6 hb6.size
          have hB6 := hBT.trans hb6
          have hb7 : Below w6.heap.size w6 (w6.alloc (.cells #[.int .u64 (openH sT).1, .slice A6 (openH sT).2.length c6] 30)) := (Below.refl _ _).alloc (Nat.le_refl _) _
          have hx7 : Blk (w6.alloc (.cells #[.int .u64 (openH sT).1, .slice A6 (openH sT).2.length c6] 30)) w6.heap.size 30 #[.int .u64 (openH sT).1, .slice A6 (openH sT).2.length c6] := Blk.new w6 _ _
          have hM7 : Many w.heap.size (w6.alloc (.cells #[.int .u64 (openH sT).1, .slice A6 (openH sT).2.length c6] 30)) [(gT, openS sT)] := Many.below hM6 hb7
          have HRO := Lib.hid (ropen_any (hR6.below hb7) HST.out hkT hl0 hl1)
          have hB7 := hB6.trans (hb7.mono hB6.size)
          have hby7 := hby6.keep (BK.of_below hb7)
          clear hMT hRT hBT hST hM6 hR6 hb6 hk6 hby6 hl0 hl1
          go_wp2_with fail
          refine HRO.out.mono ?_
          clear HRO HST
          generalize hW7 : w6.alloc (.cells #[.int .u64 (openH sT).1, .slice A6 (openH sT).2.length c6] 30) = W7 at *
          clear hW7
          rintro e w8 ⟨A8, c8, r8, rfl, hby8, hR8, hS8, hk8, hb8⟩
          have hM8 := Many.keepR hM7 hk8
          have hx8 := hk8.blk hx7 (by decide) (by decide)
          have hB8 := hB7.trans hb8
          have hby7' := hby7.keep hk8.bk
          have t0 : w8.cell? ⟨w6.heap.size, 0, none⟩ = some (.int .u64 (openH sT).1) := hx8.cell 0
          have t1 : w8.cell? ⟨w6.heap.size, 1, none⟩ = some (.slice A6 (openH sT).2.length c6) := hx8.cell 1
          have htl := hx8.lt
          have hb9 : Below w8.heap.size w8 (w8.alloc (.cells #[.int .u64 (openH sT).1, .slice A8 (openH sT).2.length c8] 44)) := (Below.refl _ _).alloc (Nat.le_refl _) _
          have HSM := Lib.hid (hsame_any (openH sT).1 A6 (openH sT).2 c6 (openH sT).1 A8 (openH sT).2 c8 _ (hby7'.keep (BK.of_below hb9)).1 (hby8.keep (BK.of_below hb9)).1 hoh)
          have hM9 := hM8.below hb9
          have hR9 := hR8.below hb9
          have hB9 := hB8.trans (hb9.mono hB8.size)
          clear hM7 hM8 hR8 hby7 hby7' hby8 hx7 hb8 hk8
          go_wp2_with fail
          refine HSM.out.mono ?_
          clear HSM
          generalize hW9 : w8.alloc (.cells #[.int .u64 (openH sT).1, .slice A8 (openH sT).2.length c8] 44) = W9 at *
          clear hW9 t0 t1 htl hx8 hb9
          rintro e w10 ⟨rfl, hb10⟩
          first | simp only [decide_true] | rw [show decide (((openH sT).1, (openH sT).2) = ((openH sT).1, (openH sT).2)) = true from decide_eq_true rfl]
          have hM10 := hM9.below hb10
          have hR10 := hR9.below hb10
          have hB10 := hB9.trans (hb10.mono hB9.size)
          have HP1 := Lib.hid (many_pending (i := 0) (L := [(gT, openS sT)]) hM10 rfl)
          go_wp2_with fail
          refine HP1.out.mono ?_
          clear HP1
          rintro e w11 ⟨rfl, rfl⟩
          have hp2 := rpending_any w.heap.size grT r8 w10 hR10 hS8.sim.le (by have := hS8.len; omega)
          rw [hS8.sim.pending] at hp2
          have HP2 := Lib.hid hp2
          clear hp2
          go_wp2_with fail
          refine HP2.out.mono ?_
          clear HP2
          rintro e w12 ⟨rfl, hk12, hb12, hR12⟩
          go_wp2
          go_roundw
          case rel => exact ⟨k + 1, gT, openS sT, grT, r8, rfl, rfl, by go_num, by omega, Many.keepR hM10 hk12, hR12, hS8.mono (by omega), hB10.trans hb12⟩
          case measure => simp [intOf]; omega
        by_cases h3 : kd = 3
        · have hkd := h3.symm
          clear h1 h2 h3
          subst hkd
          have hS' := hS.cut kp
          have HC := Lib.hid (many_cut (i := 0) hM1 hB1.size rfl Ak kp ck hS.sz0 hS.sz1 (by have := hS.pend; omega) (hck.below hB1).whole hkl)
          go_wp2_with fail
          refine HC.out.mono ?_
          clear HC
          generalize hW1 : wr.alloc (.cells #[.int .i64 3, .int .i64 n, .slice Ab lb.length cb, .slice Ak kp.length ck] 53) = W1 at *
          clear hW1
          rintro e w4 ⟨g', rfl, hM4, hb4⟩
          have hx4 := hx1.below hb4 hx1.lt
          have p43 : w4.cell? ⟨wr.heap.size, 3, none⟩ = some (.slice Ak kp.length ck) := hx4.cell 3
          have hB4 := hB1.trans (hb4.mono hB1.size)
          have hR4 := hR1.below hb4
          go_wp2_with fail
          refine (rcut_any w.heap.size gr r Ak kp ck w4 hR4 hS.sim.le (by have := hS.len; omega) ((hck.below hB4).whole) hkl).mono ?_
          rintro e w5 ⟨gr', rfl, hR5, hb5⟩
          have hM5 : Many w.heap.size w5 [(g', cutS s kp)] := (hM4.drop (L' := [(g', cutS s kp)]) (fun _ => 1) (fun i j hi hj _ => by simp at hi hj; omega) (fun i hi => by simp) (fun i hi => by simp at hi; subst hi; rfl)).below hb5
          obtain ⟨gT, hgT⟩ : ∃ a, a = g' := ⟨_, rfl⟩
          obtain ⟨sT, hsT⟩ : ∃ a, a = cutS s kp := ⟨_, rfl⟩
          obtain ⟨grT, hgrT⟩ : ∃ a, a = gr' := ⟨_, rfl⟩
          have hMT : Many w.heap.size w5 [(gT, sT)] := by rw [hgT, hsT]; exact hM5
          have hRT : RefAt w5 w.heap.size grT (rcutS r kp) := by rw [hgrT]; exact hR5.mono hB4.size
          have hST : St (8 * k + 3) sT (rcutS r kp) := by rw [hsT]; exact hS'.mono (by omega)
          have hBT : Below w.heap.size w w5 := hB4.trans (hb5.mono hB4.size)
          rw [← hgT, ← hgrT]
          clear hgT hsT hgrT hM4 hM5 hR4 hR5 hS' hS hM1 hR1 hB1 hb4 hb5 hx4 p43 hM hR hB hB4

          have hl0 := many_len hMT (i := 0) rfl 0
          have hl1 := many_len hMT (i := 0) rfl 1
          have hoh := openH_len sT hl0 hl1
          have HO := Lib.hid (many_open (i := 0) hMT hBT.size rfl)
          have HST := Lib.hid hST
          have hkT : 8 * k + 3 ≤ 1000 := by omega
          go_wp2_with fail
          refine HO.out.mono ?_
          clear HO
          rintro e w6 ⟨A6, c6, rfl, hby6, hM6, hb6, hk6⟩
          have hR6 := hRT.keep hk6 hb6.size
          have hB6 := hBT.trans hb6
          have hb7 : Below w6.heap.size w6 (w6.alloc (.cells #[.int .u64 (openH sT).1, .slice A6 (openH sT).2.length c6] 30)) := (Below.refl _ _).alloc (Nat.le_refl _) _
          have hx7 : Blk (w6.alloc (.cells #[.int .u64 (openH sT).1, .slice A6 (openH sT).2.length c6] 30)) w6.heap.size 30 #[.int .u64 (openH sT).1, .slice A6 (openH sT).2.length c6] := Blk.new w6 _ _
          have hM7 : Many w.heap.size (w6.alloc (.cells #[.int .u64 (openH sT).1, .slice A6 (openH sT).2.length c6] 30)) [(gT, openS sT)] := Many.below hM6 hb7
          have HRO := Lib.hid (ropen_any (hR6.below hb7) HST.out hkT hl0 hl1)
          have hB7 := hB6.trans (hb7.mono hB6.size)
          have hby7 := hby6.keep (BK.of_below hb7)
          clear hMT hRT hBT hST hM6 hR6 hb6 hk6 hby6 hl0 hl1
          go_wp2_with fail
          refine HRO.out.mono ?_
          clear HRO HST
          generalize hW7 : w6.alloc (.cells #[.int .u64 (openH sT).1, .slice A6 (openH sT).2.length c6] 30) = W7 at *
          clear hW7
          rintro e w8 ⟨A8, c8, r8, rfl, hby8, hR8, hS8, hk8, hb8⟩
          have hM8 := Many.keepR hM7 hk8
          have hx8 := hk8.blk hx7 (by decide) (by decide)
          have hB8 := hB7.trans hb8
          have hby7' := hby7.keep hk8.bk
          have t0 : w8.cell? ⟨w6.heap.size, 0, none⟩ = some (.int .u64 (openH sT).1) := hx8.cell 0
          have t1 : w8.cell? ⟨w6.heap.size, 1, none⟩ = some (.slice A6 (openH sT).2.length c6) := hx8.cell 1
          have htl := hx8.lt
          have hb9 : Below w8.heap.size w8 (w8.alloc (.cells #[.int .u64 (openH sT).1, .slice A8 (openH sT).2.length c8] 44)) := (Below.refl _ _).alloc (Nat.le_refl _) _
          have HSM := Lib.hid (hsame_any (openH sT).1 A6 (openH sT).2 c6 (openH sT).1 A8 (openH sT).2 c8 _ (hby7'.keep (BK.of_below hb9)).1 (hby8.keep (BK.of_below hb9)).1 hoh)
          have hM9 := hM8.below hb9
          have hR9 := hR8.below hb9
          have hB9 := hB8.trans (hb9.mono hB8.size)
          clear hM7 hM8 hR8 hby7 hby7' hby8 hx7 hb8 hk8
          go_wp2_with fail
          refine HSM.out.mono ?_
          clear HSM
          generalize hW9 : w8.alloc (.cells #[.int .u64 (openH sT).1, .slice A8 (openH sT).2.length c8] 44) = W9 at *
          clear hW9 t0 t1 htl hx8 hb9
          rintro e w10 ⟨rfl, hb10⟩
          first | simp only [decide_true] | rw [show decide (((openH sT).1, (openH sT).2) = ((openH sT).1, (openH sT).2)) = true from decide_eq_true rfl]
          have hM10 := hM9.below hb10
          have hR10 := hR9.below hb10
          have hB10 := hB9.trans (hb10.mono hB9.size)
          have HP1 := Lib.hid (many_pending (i := 0) (L := [(gT, openS sT)]) hM10 rfl)
          go_wp2_with fail
          refine HP1.out.mono ?_
          clear HP1
          rintro e w11 ⟨rfl, rfl⟩
          have hp2 := rpending_any w.heap.size grT r8 w10 hR10 hS8.sim.le (by have := hS8.len; omega)
          rw [hS8.sim.pending] at hp2
          have HP2 := Lib.hid hp2
          clear hp2
          go_wp2_with fail
          refine HP2.out.mono ?_
          clear HP2
          rintro e w12 ⟨rfl, hk12, hb12, hR12⟩
          go_wp2
          go_roundw
          case rel => exact ⟨k + 1, gT, openS sT, grT, r8, rfl, rfl, by go_num, by omega, Many.keepR hM10 hk12, hR12, hS8.mono (by omega), hB10.trans hb12⟩
          case measure => simp [intOf]; omega
        by_cases h4 : kd = 4
        · have hkd := h4.symm
          clear h1 h2 h3 h4
          subst hkd
          obtain ⟨x, s', r', ex, er, hS'⟩ := both_write hS n (padS lb)
          have HW : Hid (∀ (w4 : World) (A : Option Addr), Many w.heap.size w4 [(g, s)] → Bytes w4 A (padS lb) → w.heap.size ≤ w4.heap.size → Calls Try.prog 12 #[.pointer (some ⟨g, 0, none⟩), .int .i64 n, .slice A 256 256] w4 fun e w' => e = .returned (.int .i64 x) ∧ Many w.heap.size w' [(g, s')] ∧ Below w.heap.size w4 w' ∧ BKA w4 w') := Lib.hid fun w4 A h1 h2 h3 => by
            have := many_write (i := 0) h1 h3 rfl n A (padS lb) 256 hS.fu h2 (padS_oct hob) (by have := hS.pend; omega) (by rw [padS_len]; decide)
            rw [padS_len, ex] at this
            exact this.mono fun e w' x => ⟨x.1, x.2.1, x.2.2.1, x.2.2.2⟩
          have HV : Hid (∀ (w4 : World) (A : Option Addr), RefAt w4 w.heap.size gr r → Bytes w4 A (padS lb) → Calls Try.prog 22 #[.pointer (some ⟨gr, 0, none⟩), .int .i64 n, .slice A 256 256] w4 fun e w' => e = .returned (.int .i64 x) ∧ RefAt w' w.heap.size gr r' ∧ KR w4 w' ∧ Below w.heap.size w4 w') := Lib.hid fun w4 A h1 h2 => by
            have := rwrite_any w.heap.size gr r n A (padS lb) 256 w4 h1 hS.rfu h2 (padS_oct hob) (by have := hS.len; omega) (by rw [padS_len]; decide)
            rw [padS_len] at this
            unfold RWriteP at this
            rw [er] at this
            exact this
          clear ex er
          have hs1 : (wr.alloc (.cells #[.int .i64 4, .int .i64 n, .slice Ab lb.length cb, .slice Ak kp.length ck] 53)).heap.size = wr.heap.size + 1 := World.size_alloc _ _
          have HS1 := Lib.hid hs1
          clear hs1
          have hcb1 := (hcb.below hB1).whole
          have HPOS := Lib.hid (copy_pos _ Ab lb hcb1)
          have HZ := Lib.hid (show ((wr.alloc (.cells #[.int .i64 4, .int .i64 n, .slice Ab lb.length cb, .slice Ak kp.length ck] 53)).alloc (.cells (U8 zeroSec).toArray 5)).heap[(wr.alloc (.cells #[.int .i64 4, .int .i64 n, .slice Ab lb.length cb, .slice Ak kp.length ck] 53)).heap.size]? = some (.cells (U8 zeroSec).toArray 5 (0, 0)) from Blk.new _ _ _)
          have hbz : Below (wr.alloc (.cells #[.int .i64 4, .int .i64 n, .slice Ab lb.length cb, .slice Ak kp.length ck] 53)).heap.size (wr.alloc (.cells #[.int .i64 4, .int .i64 n, .slice Ab lb.length cb, .slice Ak kp.length ck] 53)) ((wr.alloc (.cells #[.int .i64 4, .int .i64 n, .slice Ab lb.length cb, .slice Ak kp.length ck] 53)).alloc (.cells (U8 zeroSec).toArray 5)) := (Below.refl _ _).alloc (Nat.le_refl _) _
          rw [HS1.out] at HPOS HZ
          go_wp2_with (with_reducible refine wpList_copy_splice rfl (.tmp 86) (.tmp 88) 28 28 rfl 5 Try.underlying28 one8' (some ⟨wr.heap.size + 1, 0, none⟩) Ab 256 256 lb.length cb rfl rfl (wr.heap.size + 1) 0 (U8 zeroSec) 5 HZ.out (U8 (lb.take 256)) (copy_min lb) HPOS.out (copy_fit lb) (one_u8 _) (wr.alloc (.cells #[.int .i64 4, .int .i64 n, .slice Ab lb.length cb, .slice Ak kp.length ck] 53)).heap.size (wr.alloc (.cells #[.int .i64 4, .int .i64 n, .slice Ab lb.length cb, .slice Ak kp.length ck] 53)) hbz (Nat.le_of_eq HS1.out) ?_)
          intro w3 HG3 hB3x
          generalize hW1 : wr.alloc (.cells #[.int .i64 4, .int .i64 n, .slice Ab lb.length cb, .slice Ak kp.length ck] 53) = W1 at *
          clear hW1
          have hB3 : Below W1.heap.size W1 w3 := by rw [HS1.out]; exact hB3x
          clear hB3x
          have hg3 := HG3.out
          rw [show List.take 256 (List.map (Value.int IntKind.u8) lb) = U8 (lb.take 256) from (U8_take lb 256).symm, padS_splice] at hg3
          have hby3 : Bytes w3 (some ⟨wr.heap.size + 1, 0, none⟩) (padS lb) := Own.bytes (own_blk (base := 0) hg3 (Nat.zero_le _) (by rw [padS_len]; decide))
          have hBB3 := hB1.trans (hB3.mono hB1.size)
          have hx3 := hx1.below hB3 hx1.lt
          have hM3 := hM1.below hB3
          have hR3 := hR1.below hB3
          have p31 : w3.cell? ⟨wr.heap.size, 1, none⟩ = some (.int .i64 n) := hx3.cell 1
          clear HG3 hg3 HZ HPOS hbz hcb1
          go_wp2
          go_region_held3 (fun w' => w'.cell? ⟨wr.heap.size, 1, none⟩ = some (.int .i64 n)) (go_keep)
            (first
              | (go_at_call 12; refine (HW.out _ _ (by exact hM3.drew) (by exact hby3) (by exact hBB3.size)).mono ?_; rintro e w5 ⟨rfl, hM5, hb5, hk5⟩; have q5 : w5.cell? ⟨wr.heap.size, 1, none⟩ = some (.int .i64 n) := (hk5.blk hx3.drew free_opm).cell 1)
              | (go_at_call 22; refine (HV.out _ _ (by exact hR3.drew.keep hk5 hb5.size) (by exact Bytes.keep (w := w3.drew) hby3 hk5.b)).mono ?_; rintro e w6 ⟨rfl, hR6, hk6, hb6⟩; have q6 : w6.cell? ⟨wr.heap.size, 1, none⟩ = some (.int .i64 n) := (hk6.blk (hk5.blk hx3.drew free_opm) (by decide) (by decide)).cell 1))
          all_goals
            obtain ⟨gT, hgT⟩ : ∃ a, a = g := ⟨_, rfl⟩
            obtain ⟨sT, hsT⟩ : ∃ a, a = s' := ⟨_, rfl⟩
            obtain ⟨grT, hgrT⟩ : ∃ a, a = gr := ⟨_, rfl⟩
            have hMT : Many w.heap.size w6 [(gT, sT)] := by rw [hgT, hsT]; exact Many.keepR hM5 hk6
            have hRT : RefAt w6 w.heap.size grT r' := by rw [hgrT]; exact hR6
            have hST : St (8 * k + 3) sT r' := by rw [hsT]; exact hS'.mono (by omega)
            have hBT : Below w.heap.size w w6 := (hBB3.drew.trans hb5).trans hb6
            rw [← hgT, ← hgrT]
            clear hgT hsT hgrT hM5 hR6 hS' hM1 hR1 hS hB1 hk5 hk6 hb5 hb6 q5 q6 HW HV hM hR hB hM3 hR3 hx3 hBB3 hby3 p31 hB3
            have hl0 := many_len hMT (i := 0) rfl 0
            have hl1 := many_len hMT (i := 0) rfl 1
            have hoh := openH_len sT hl0 hl1
            have HO := Lib.hid (many_open (i := 0) hMT hBT.size rfl)
            have HST := Lib.hid hST
            have hkT : 8 * k + 3 ≤ 1000 := by omega
            go_wp2_with fail
            refine HO.out.mono ?_
            clear HO
            rintro e w6 ⟨A6, c6, rfl, hby6, hM6, hb6, hk6⟩
            have hR6 := hRT.keep hk6 hb6.size
            have hB6 := hBT.trans hb6
            have hb7 : Below w6.heap.size w6 (w6.alloc (.cells #[.int .u64 (openH sT).1, .slice A6 (openH sT).2.length c6] 30)) := (Below.refl _ _).alloc (Nat.le_refl _) _
            have hx7 : Blk (w6.alloc (.cells #[.int .u64 (openH sT).1, .slice A6 (openH sT).2.length c6] 30)) w6.heap.size 30 #[.int .u64 (openH sT).1, .slice A6 (openH sT).2.length c6] := Blk.new w6 _ _
            have hM7 : Many w.heap.size (w6.alloc (.cells #[.int .u64 (openH sT).1, .slice A6 (openH sT).2.length c6] 30)) [(gT, openS sT)] := Many.below hM6 hb7
            have HRO := Lib.hid (ropen_any (hR6.below hb7) HST.out hkT hl0 hl1)
            have hB7 := hB6.trans (hb7.mono hB6.size)
            have hby7 := hby6.keep (BK.of_below hb7)
            clear hMT hRT hBT hST hM6 hR6 hb6 hk6 hby6 hl0 hl1
            go_wp2_with fail
            refine HRO.out.mono ?_
            clear HRO HST
            generalize hW7 : w6.alloc (.cells #[.int .u64 (openH sT).1, .slice A6 (openH sT).2.length c6] 30) = W7 at *
            clear hW7
            rintro e w8 ⟨A8, c8, r8, rfl, hby8, hR8, hS8, hk8, hb8⟩
            have hM8 := Many.keepR hM7 hk8
            have hx8 := hk8.blk hx7 (by decide) (by decide)
            have hB8 := hB7.trans hb8
            have hby7' := hby7.keep hk8.bk
            have t0 : w8.cell? ⟨w6.heap.size, 0, none⟩ = some (.int .u64 (openH sT).1) := hx8.cell 0
            have t1 : w8.cell? ⟨w6.heap.size, 1, none⟩ = some (.slice A6 (openH sT).2.length c6) := hx8.cell 1
            have htl := hx8.lt
            have hb9 : Below w8.heap.size w8 (w8.alloc (.cells #[.int .u64 (openH sT).1, .slice A8 (openH sT).2.length c8] 44)) := (Below.refl _ _).alloc (Nat.le_refl _) _
            have HSM := Lib.hid (hsame_any (openH sT).1 A6 (openH sT).2 c6 (openH sT).1 A8 (openH sT).2 c8 _ (hby7'.keep (BK.of_below hb9)).1 (hby8.keep (BK.of_below hb9)).1 hoh)
            have hM9 := hM8.below hb9
            have hR9 := hR8.below hb9
            have hB9 := hB8.trans (hb9.mono hB8.size)
            clear hM7 hM8 hR8 hby7 hby7' hby8 hx7 hb8 hk8
            go_wp2_with fail
            refine HSM.out.mono ?_
            clear HSM
            generalize hW9 : w8.alloc (.cells #[.int .u64 (openH sT).1, .slice A8 (openH sT).2.length c8] 44) = W9 at *
            clear hW9 t0 t1 htl hx8 hb9
            rintro e w10 ⟨rfl, hb10⟩
            first | simp only [decide_true] | rw [show decide (((openH sT).1, (openH sT).2) = ((openH sT).1, (openH sT).2)) = true from decide_eq_true rfl]
            have hM10 := hM9.below hb10
            have hR10 := hR9.below hb10
            have hB10 := hB9.trans (hb10.mono hB9.size)
            have HP1 := Lib.hid (many_pending (i := 0) (L := [(gT, openS sT)]) hM10 rfl)
            go_wp2_with fail
            refine HP1.out.mono ?_
            clear HP1
            rintro e w11 ⟨rfl, rfl⟩
            have hp2 := rpending_any w.heap.size grT r8 w10 hR10 hS8.sim.le (by have := hS8.len; omega)
            rw [hS8.sim.pending] at hp2
            have HP2 := Lib.hid hp2
            clear hp2
            go_wp2_with fail
            refine HP2.out.mono ?_
            clear HP2
            rintro e w12 ⟨rfl, hk12, hb12, hR12⟩
            go_wp2
            go_roundw
            case rel => exact ⟨k + 1, gT, openS sT, grT, r8, rfl, rfl, by go_num, by omega, Many.keepR hM10 hk12, hR12, hS8.mono (by omega), hB10.trans hb12⟩
            case measure => simp [intOf]; omega
        have n1 : (kd == 1) = false := by simpa using h1
        have n2 : (kd == 2) = false := by simpa using h2
        have n3 : (kd == 3) = false := by simpa using h3
        have n4 : (kd == 4) = false := by simpa using h4
        obtain ⟨gT, hgT⟩ : ∃ a, a = g := ⟨_, rfl⟩
        obtain ⟨sT, hsT⟩ : ∃ a, a = s := ⟨_, rfl⟩
        obtain ⟨grT, hgrT⟩ : ∃ a, a = gr := ⟨_, rfl⟩
        have hMT := hM1
        have hRT := hR1
        have hST := hS.mono (show 8 * k ≤ 8 * k + 3 by omega)
        have hBT := hB1
        rw [← hgT, ← hsT] at hMT
        rw [← hgrT] at hRT
        rw [← hsT] at hST
        rw [← hgT, ← hgrT]
        clear hgT hsT hgrT hM1 hR1 hS hB1 hM hR hB h1 h2 h3 h4

        have hl0 := many_len hMT (i := 0) rfl 0
        have hl1 := many_len hMT (i := 0) rfl 1
        have hoh := openH_len sT hl0 hl1
        have HO := Lib.hid (many_open (i := 0) hMT hBT.size rfl)
        have HST := Lib.hid hST
        have hkT : 8 * k + 3 ≤ 1000 := by omega
        go_wp2_with fail
        refine HO.out.mono ?_
        clear HO
        rintro e w6 ⟨A6, c6, rfl, hby6, hM6, hb6, hk6⟩
        have hR6 := hRT.keep hk6 hb6.size
        have hB6 := hBT.trans hb6
        have hb7 : Below w6.heap.size w6 (w6.alloc (.cells #[.int .u64 (openH sT).1, .slice A6 (openH sT).2.length c6] 30)) := (Below.refl _ _).alloc (Nat.le_refl _) _
        have hx7 : Blk (w6.alloc (.cells #[.int .u64 (openH sT).1, .slice A6 (openH sT).2.length c6] 30)) w6.heap.size 30 #[.int .u64 (openH sT).1, .slice A6 (openH sT).2.length c6] := Blk.new w6 _ _
        have hM7 : Many w.heap.size (w6.alloc (.cells #[.int .u64 (openH sT).1, .slice A6 (openH sT).2.length c6] 30)) [(gT, openS sT)] := Many.below hM6 hb7
        have HRO := Lib.hid (ropen_any (hR6.below hb7) HST.out hkT hl0 hl1)
        have hB7 := hB6.trans (hb7.mono hB6.size)
        have hby7 := hby6.keep (BK.of_below hb7)
        clear hMT hRT hBT hST hM6 hR6 hb6 hk6 hby6 hl0 hl1
        go_wp2_with fail
        refine HRO.out.mono ?_
        clear HRO HST
        generalize hW7 : w6.alloc (.cells #[.int .u64 (openH sT).1, .slice A6 (openH sT).2.length c6] 30) = W7 at *
        clear hW7
        rintro e w8 ⟨A8, c8, r8, rfl, hby8, hR8, hS8, hk8, hb8⟩
        have hM8 := Many.keepR hM7 hk8
        have hx8 := hk8.blk hx7 (by decide) (by decide)
        have hB8 := hB7.trans hb8
        have hby7' := hby7.keep hk8.bk
        have t0 : w8.cell? ⟨w6.heap.size, 0, none⟩ = some (.int .u64 (openH sT).1) := hx8.cell 0
        have t1 : w8.cell? ⟨w6.heap.size, 1, none⟩ = some (.slice A6 (openH sT).2.length c6) := hx8.cell 1
        have htl := hx8.lt
        have hb9 : Below w8.heap.size w8 (w8.alloc (.cells #[.int .u64 (openH sT).1, .slice A8 (openH sT).2.length c8] 44)) := (Below.refl _ _).alloc (Nat.le_refl _) _
        have HSM := Lib.hid (hsame_any (openH sT).1 A6 (openH sT).2 c6 (openH sT).1 A8 (openH sT).2 c8 _ (hby7'.keep (BK.of_below hb9)).1 (hby8.keep (BK.of_below hb9)).1 hoh)
        have hM9 := hM8.below hb9
        have hR9 := hR8.below hb9
        have hB9 := hB8.trans (hb9.mono hB8.size)
        clear hM7 hM8 hR8 hby7 hby7' hby8 hx7 hb8 hk8
        go_wp2_with fail
        refine HSM.out.mono ?_
        clear HSM
        generalize hW9 : w8.alloc (.cells #[.int .u64 (openH sT).1, .slice A8 (openH sT).2.length c8] 44) = W9 at *
        clear hW9 t0 t1 htl hx8 hb9
        rintro e w10 ⟨rfl, hb10⟩
        first | simp only [decide_true] | rw [show decide (((openH sT).1, (openH sT).2) = ((openH sT).1, (openH sT).2)) = true from decide_eq_true rfl]
        have hM10 := hM9.below hb10
        have hR10 := hR9.below hb10
        have hB10 := hB9.trans (hb10.mono hB9.size)
        have HP1 := Lib.hid (many_pending (i := 0) (L := [(gT, openS sT)]) hM10 rfl)
        go_wp2_with fail
        refine HP1.out.mono ?_
        clear HP1
        rintro e w11 ⟨rfl, rfl⟩
        have hp2 := rpending_any w.heap.size grT r8 w10 hR10 hS8.sim.le (by have := hS8.len; omega)
        rw [hS8.sim.pending] at hp2
        have HP2 := Lib.hid hp2
        clear hp2
        go_wp2_with fail
        refine HP2.out.mono ?_
        clear HP2
        rintro e w12 ⟨rfl, hk12, hb12, hR12⟩
        go_wp2
        go_roundw
        case rel => exact ⟨k + 1, gT, openS sT, grT, r8, rfl, rfl, by go_num, by omega, Many.keepR hM10 hk12, hR12, hS8.mono (by omega), hB10.trans hb12⟩
        case measure => simp [intOf]; omega
      · have hgk : ¬ (k : Int) < (l.length : Int) := by omega
        go_wp2
        go_ret
        exact ⟨rfl, hB⟩
end Go.Proofs.Ytobdbkhjdhnooaa
