/-
  MetaCuts.
-/
import Derived.Test.YtobdbkhjdhnooaaMj
set_option linter.unusedVariables false
namespace Go.Proofs.Ytobdbkhjdhnooaa
open Go.RowKit

theorem Many.setT {B g i : Nat} {w : World} {L : List (Nat × DS)} {t : TypeId} {cs : Array Value} (h : Many B w L) (hg : Blk w g t cs) (ht : Free t) (h8 : t ≠ 5) (a : Value) : Many B (w.setCell ⟨g, i, none⟩ a) L := by
  obtain ⟨F, h1, h2⟩ := h
  refine ⟨F, fun j gd s e => ⟨?_, (h1 j gd s e).2⟩, h2⟩
  refine (h1 j gd s e).1.chg (Chg.setCell w ⟨g, i, none⟩ a) (fun k hF hk => ?_) (fun k cur mk hk hh => ?_)
  · have hk : k = g := hk
    subst hk
    exact (h1 j gd s e).1.notT k cs _ (0, 0) ht hF hg
  · have hk : k = g := hk
    subst hk
    unfold Blk at hg
    rw [hg] at hh
    injection hh with hh
    injection hh with _ hh
    exact h8 hh
theorem free_rhead : Free 44 := ⟨by decide, by decide⟩

set_option maxHeartbeats 16000000 in
theorem cuts_walk (A : Option Addr) (rs : List RowD) (c : Nat) (fz : Int) (K : Option Addr) (keep : List Bool) (kc : Nat) (w : World) (h : RowsAt w A rs) (hl : rs.length ≤ 9223372036854775807) (f0 : 0 ≤ fz) (f1 : fz ≤ 255) (hkc : Cells w w.heap.size K (keep.map Value.bool)) (hkl : keep.length ≤ 9223372036854775807) :
    Calls Try.prog 6 #[.slice A rs.length c, .int .u8 fz, .slice K keep.length kc] w fun e w' => e = .returned (.bool true) ∧ Below w.heap.size w w' := by
  go_enter Try.func6, Try.ntmps6
  go_wp2_with fail
  refine (awake_any w).mono ?_
  rintro e w1 ⟨rfl, hb1⟩
  by_cases h40 : 40 < rs.length
  · have hg : (40 : Int) < (rs.length : Int) := by omega
    go_wp2_with fail
    refine (awake_any w1).mono ?_
    rintro e w2 ⟨rfl, hb2⟩
    go_wp2
    go_ret
    exact ⟨rfl, hb1.trans (hb2.mono hb1.size)⟩
  have hg40 : ¬ (40 : Int) < (rs.length : Int) := by omega
  by_cases h1000 : 1000 < keep.length
  · have hg : (1000 : Int) < (keep.length : Int) := by omega
    go_wp2_with fail
    refine (awake_any w1).mono ?_
    rintro e w2 ⟨rfl, hb2⟩
    go_wp2
    go_ret
    exact ⟨rfl, hb1.trans (hb2.mono hb1.size)⟩
  have hg1000 : ¬ (1000 : Int) < (keep.length : Int) := by omega
  go_wp2_with fail
  refine (many_new (Many.nil w.heap.size w1) hb1.size 3).mono ?_
  rintro e w2 ⟨g, rfl, m2, hb2⟩
  have hB2 := hb1.trans (hb2.mono hb1.size)
  have hbw3 : Blk ((w2.alloc (.cells #[.int .u64 0, .slice none 0 0] 44)).alloc (.cells #[.int .u64 0, .slice none 0 0] 44)) w2.heap.size 44 #[.int .u64 0, .slice none 0 0] := (Blk.new w2 _ _).alloc _
  have hbn3 : Blk ((w2.alloc (.cells #[.int .u64 0, .slice none 0 0] 44)).alloc (.cells #[.int .u64 0, .slice none 0 0] 44)) (w2.heap.size + 1) 44 #[.int .u64 0, .slice none 0 0] := Blk.second w2 _ _ _
  have hb3 : Below w2.heap.size w2 ((w2.alloc (.cells #[.int .u64 0, .slice none 0 0] 44)).alloc (.cells #[.int .u64 0, .slice none 0 0] 44)) := ((Below.refl _ _).alloc (Nat.le_refl _) _).alloc (by simp) _
  have hB3 := hB2.trans (hb3.mono hB2.size)
  have HC := Lib.hid (many_fuse (i := 0) (m2.below hb3) hB3.size rfl fz)
  obtain ⟨bw, hbw⟩ : ∃ b, b = w2.heap.size := ⟨_, rfl⟩
  obtain ⟨bn, hbn⟩ : ∃ b, b = w2.heap.size + 1 := ⟨_, rfl⟩
  go_wp2_with fail
  refine HC.out.mono ?_
  clear HC
  rw [← hbn] at hbn3
  rw [← hbw] at hbw3
  have hbw0 : w.heap.size ≤ bw := by have := hB2.size; omega
  have hbn0 : w.heap.size ≤ bn := by have := hB2.size; omega
  have hne : bw ≠ bn := by omega
  generalize ((w2.alloc (.cells #[.int .u64 0, .slice none 0 0] 44)).alloc (.cells #[.int .u64 0, .slice none 0 0] 44)) = W3 at *
  rintro e w4 ⟨rfl, m4, hb4, hk4⟩
  have hbw4 := hk4.blk hbw3 free_rhead
  have hbn4 := hk4.blk hbn3 free_rhead
  have hB4 := hB3.trans hb4
  have cu0 : CU { newDS 3 with fuse := max fz (-1) } (0, []) 0 := by
    refine ⟨rfl, rfl, rfl, rfl, by show max fz (-1) ≤ _; omega, rfl, ?_, .inl ⟨rfl, ?_⟩⟩
    · show headOf zeroSec = _; exact headOf_zero
    · show headOf zeroSec = _; exact headOf_zero
  have m4' : Many w.heap.size w4 [(g, { newDS 3 with fuse := max fz (-1) })] := m4
  rw [← hbn, ← hbw]
  have HBW := Lib.hid hbw
  have HBN := Lib.hid hbn
  clear m4 m2 hb4 hb3 hk4 hbw3 hbn3 hb1 hb2 hbw hbn hB2 hB3
  go_wp2
  go_loopw [10] (fun i wr => ∃ (k : Nat) (s : DS) (gw : Int) (lw : List Int) (Aw : Option Addr) (cw : Nat) (v0 v1 : Value), i = .int .i64 k ∧ k ≤ rs.length ∧ CU s (gw, lw) k ∧ Many w.heap.size wr [(g, s)] ∧ Blk wr bw 44 #[.int .u64 gw, .slice Aw lw.length cw] ∧ Blk wr bn 44 #[v0, v1] ∧ Cells w w.heap.size Aw (U8 lw) ∧ lw.length ≤ 200 ∧ Below w.heap.size w wr)
    (fun i _ => rs.length - (intOf i).toNat)
  case atStart => exact ⟨0, _, 0, [], none, 0, _, _, rfl, Nat.zero_le _, cu0, m4', hbw4, hbn4, Cells.nil, by simp, hB4⟩
  case round =>
    obtain ⟨k, s, gw, lw, Aw, cw, v0, v1, rfl, hk, hCU, hM, hbw, hbn, hcw, hlw, hB⟩ := hrel
    clear cu0 m4' hbw4 hbn4 hB4
    by_cases hlt : k < rs.length
    · have hgk : (k : Int) < (rs.length : Int) := by omega
      obtain ⟨b, off, rfl, hb, c0, hfit⟩ := (h.below hB).at_ hlt
      have hfit0 := h.fits _ (List.getElem_mem hlt)
      generalize rs[k] = r at *
      obtain ⟨Ar, l, cr⟩ := r
      simp only at c0
      have hcl0 : Cells w w.heap.size Ar (U8 l) := hfit0.cells
      have hol : Oct l := hfit.ho
      have hlc : l.length ≤ cr := hfit.hl
      have hcm : cr ≤ 9223372036854775807 := hfit.hc
      clear hfit hfit0
      obtain ⟨p, hp⟩ : ∃ p, p = l.take 200 := ⟨_, rfl⟩
      have hpl : p.length ≤ 200 := by rw [hp, List.length_take]; omega
      have hop : Oct p := by rw [hp]; exact hol.take 200
      have hcp0 : Cells w w.heap.size Ar (U8 p) := by rw [hp]; exact hcl0.takeU 200
      have hsv := hCU.save p hpl (by omega)
      have q0 : wr.cell? ⟨bn, 0, none⟩ = some v0 := hbn.cell 0
      have q1 : wr.cell? ⟨bn, 1, none⟩ = some v1 := hbn.cell 1
      have z0 := hbn.free 0
      have z1 := hbn.free 1
      have HSV := Lib.hid hsv
      have HW : Hid (∀ w5 : World, Many w.heap.size w5 [(g, s)] → Below w.heap.size w w5 → Calls Try.prog 10 #[.pointer (some ⟨g, 0, none⟩), .agg #[.int .u64 ((k : Int) + 1), .slice Ar p.length cr]] w5 (SaveP w.heap.size [(g, s)] 0 g (saveE s ((k : Int) + 1) p).1 (saveE s ((k : Int) + 1) p).2 w5)) := Lib.hid fun w5 m1 m2 =>
        many_save (i := 0) m1 m2.size rfl ((k : Int) + 1) Ar p cr (by omega) (by omega) (Kept.of_low (hcp0.below m2)) hop (by omega) hCU.fu (by rw [hCU.pend]; exact Nat.zero_le _)
      clear hsv
      have hmn : (min (l.length : Int) 200).toNat = p.length := by rw [hp, List.length_take]; omega
      have HMN := Lib.hid hmn
      clear hp hmn
      go_wp2
      go_region
      all_goals
        have hbnX := ((hbn.set_ 0 (.int .u64 ((k : Int) + 1))).set_ 1 (.slice Ar p.length cr)).drew
        have hbwX := ((hbw.far (p := ⟨bn, 0, none⟩) (by exact hne) (.int .u64 ((k : Int) + 1))).far (p := ⟨bn, 1, none⟩) (by exact hne) (.slice Ar p.length cr)).drew
        have hMX := ((hM.setT (i := 0) hbn free_rhead (by decide) (.int .u64 ((k : Int) + 1))).setT (i := 1) (hbn.set_ 0 (.int .u64 ((k : Int) + 1))) free_rhead (by decide) (.slice Ar p.length cr)).drew
        have hBX := ((hB.setCell (p := ⟨bn, 0, none⟩) hbn0 (.int .u64 ((k : Int) + 1))).setCell (p := ⟨bn, 1, none⟩) hbn0 (.slice Ar p.length cr)).drew
        have hnlt := hbn.lt
        go_wp2_with fail
        rw [HMN.out]
        generalize ((wr.setCell ⟨bn, 0, none⟩ (.int .u64 ((k : Int) + 1))).setCell ⟨bn, 1, none⟩ (.slice Ar p.length cr)).drew = W5 at *
        refine (HW.out W5 hMX hBX).mono ?_
        clear HW
        rintro e w6 ⟨rfl, m6, hb6, hk6⟩
        have hbw6 := hk6.blk hbwX free_rhead
        have hbn6 := hk6.blk hbnX free_rhead
        have hB6 := hBX.trans hb6
        have m6' : Many w.heap.size w6 [(g, (saveE s ((k : Int) + 1) p).2)] := m6
        have hsv := HSV.out
        clear HSV m6 hb6 hk6 hbwX hbnX hMX hBX hM hB hbw hbn hCU q0 q1 z0 z1 hnlt
        generalize (saveE s ((k : Int) + 1) p).1 = xs at *
        generalize (saveE s ((k : Int) + 1) p).2 = s6 at *
        rcases hsv with ⟨rfl, hCU6⟩ | ⟨rfl, hz6, hp6, hkeep⟩
        · have q0 : w6.cell? ⟨bn, 0, none⟩ = some (.int .u64 ((k : Int) + 1)) := hbn6.cell 0
          have q1 : w6.cell? ⟨bn, 1, none⟩ = some (.slice Ar p.length cr) := hbn6.cell 1
          have r0 : w6.cell? ⟨bw, 0, none⟩ = some (.int .u64 gw) := hbw6.cell 0
          have r1 : w6.cell? ⟨bw, 1, none⟩ = some (.slice Aw lw.length cw) := hbw6.cell 1
          have z0 := hbw6.free 0
          have z1 := hbw6.free 1
          have hbwY := (hbw6.set_ 0 (.int .u64 ((k : Int) + 1))).set_ 1 (.slice Ar p.length cr)
          have hbnY := (hbn6.far (p := ⟨bw, 0, none⟩) (by exact fun e => hne e.symm) (.int .u64 ((k : Int) + 1))).far (p := ⟨bw, 1, none⟩) (by exact fun e => hne e.symm) (.slice Ar p.length cr)
          have hMY := (m6'.setT (i := 0) hbw6 free_rhead (by decide) (.int .u64 ((k : Int) + 1))).setT (i := 1) (hbw6.set_ 0 (.int .u64 ((k : Int) + 1))) free_rhead (by decide) (.slice Ar p.length cr)
          have hBY := (hB6.setCell (p := ⟨bw, 0, none⟩) hbw0 (.int .u64 ((k : Int) + 1))).setCell (p := ⟨bw, 1, none⟩) hbw0 (.slice Ar p.length cr)
          go_wp2
          go_roundw
          case rel => exact ⟨k + 1, s6, (k : Int) + 1, p, Ar, cr, _, _, by go_num, by omega, hCU6, hMY, hbwY, hbnY, hcp0, hpl, hBY⟩
          case measure => simp [intOf]; omega
        · have HWAS := Lib.hid (hkeep keep)
          obtain ⟨sT, hsT⟩ : ∃ sT, sT = s6 := ⟨_, rfl⟩
          have hszT : sT.size = 3 := by rw [hsT]; exact hz6
          have hpnT : sT.pend.length ≤ 1000000000 := by rw [hsT]; omega
          have hMT : Many w.heap.size w6 [(g, sT)] := by rw [hsT]; exact m6'
          rw [← hsT] at HWAS
          have hBT := hB6
          have hbwT := hbw6
          have hbnT := hbn6
          clear hsT m6' hB6 hbw6 hbn6 hkeep hz6 hp6
          have HC := Lib.hid (many_cut (i := 0) hMT hBT.size rfl K keep kc (by rw [hszT]; decide) (by rw [hszT]; decide) hpnT (hkc.below hBT).whole hkl)
          have ho := open_cut sT hszT keep
          have HO := Lib.hid ho
          clear ho
          go_wp2_with fail
          refine HC.out.mono ?_
          clear HC
          rintro e w6 ⟨g2, rfl, m6, hb6⟩
          have m6' : Many w.heap.size w6 [(g, sT), (g2, cutS sT keep)] := m6
          have hB6 := hBT.trans (hb6.mono hBT.size)
          have hbw6 := hbwT.below hb6 hbwT.lt
          have hbn6 := hbnT.below hb6 hbnT.lt
          have hc := many_open (i := 1) m6' hB6.size rfl
          unfold OpenP at hc
          rw [HO.out.1] at hc
          obtain ⟨hd, hhd⟩ : ∃ hd, openH (cutS sT keep) = hd := ⟨_, rfl⟩
          have hwas := HWAS.out
          rw [hhd] at hc hwas
          have HC := Lib.hid hc
          clear hc HO m6 m6' hb6 hhd HWAS
          obtain ⟨gh, ph⟩ := hd
          simp only at HC
          have HWAS := Lib.hid hwas
          clear hwas
          go_wp2_with fail
          refine HC.out.mono ?_
          clear HC
          rintro e w7 ⟨A7, c7, rfl, hby7, _, hb7, hk7⟩
          have hbw7 := hk7.blk hbw6 free_rhead
          have hbn7 := hk7.blk hbn6 free_rhead
          have hB7 := hB6.trans hb7
          clear hbw6 hbn6 hB6 hb7 hk7
          have hwl := hbw7.lt
          have hnl := hbn7.lt
          have x0 : w7.cell? ⟨bw, 0, none⟩ = some (.int .u64 gw) := hbw7.cell 0
          have x1 : w7.cell? ⟨bw, 1, none⟩ = some (.slice Aw lw.length cw) := hbw7.cell 1
          have hb8 : Below w7.heap.size w7 ((w7.alloc (.cells #[.int .u64 gh, .slice A7 ph.length c7] 30)).alloc (.cells #[.int .u64 gh, .slice A7 ph.length c7] 44)) := ((Below.refl _ _).alloc (Nat.le_refl _) _).alloc (by simp) _
          have hB8 := hB7.trans (hb8.mono hB7.size)

          have hpl2 : ph.length ≤ 1000 := by
            rcases HWAS.out with e | e <;> (have := congrArg (fun x => x.2.length) e; simp only at this; omega)
          have y0 : w7.cell? ⟨bn, 0, none⟩ = some (.int .u64 ((k : Int) + 1)) := hbn7.cell 0
          have y1 : w7.cell? ⟨bn, 1, none⟩ = some (.slice Ar p.length cr) := hbn7.cell 1
          by_cases heq : (gh, ph) = (gw, lw)
          · have HEQ := Lib.hid heq
            clear heq
            have HS1 := Lib.hid (hsame_any gh A7 ph c7 gw Aw lw cw _ (hby7.keep (BK.of_below hb8)).1 (hcw.below hB8).whole (hpl2))
            go_wp2_with fail
            refine HS1.out.mono ?_
            clear HS1
            rintro e w9 ⟨rfl, hb9⟩
            have hB9 := hB8.trans (hb9.mono hB8.size)

            rw [show decide ((gh, ph) = (gw, lw)) = true from decide_eq_true HEQ.out]
            go_wp2
            go_ret
            exact ⟨rfl, hB9⟩

          · have HEQ : Hid ((gh, ph) = ((k : Int) + 1, p)) := Lib.hid (by rcases HWAS.out with e | e; exact absurd e heq; exact e)
            have HNE := Lib.hid heq
            clear heq
            have HS1 := Lib.hid (hsame_any gh A7 ph c7 gw Aw lw cw _ (hby7.keep (BK.of_below hb8)).1 (hcw.below hB8).whole (hpl2))
            go_wp2_with fail
            refine HS1.out.mono ?_
            clear HS1
            rintro e w9 ⟨rfl, hb9⟩
            have hB9 := hB8.trans (hb9.mono hB8.size)

            rw [show decide ((gh, ph) = (gw, lw)) = false from decide_eq_false HNE.out]
            obtain ⟨W8, hW8⟩ : ∃ W8, W8 = ((w7.alloc (.cells #[.int .u64 gh, .slice A7 ph.length c7] 30)).alloc (.cells #[.int .u64 gh, .slice A7 ph.length c7] 44)) := ⟨_, rfl⟩
            have ha8 : Blk W8 (w7.heap.size + 1) 44 #[.int .u64 gh, .slice A7 ph.length c7] := by rw [hW8]; exact Blk.second w7 _ _ _
            have hbn8 : Blk W8 bn 44 #[.int .u64 ((k : Int) + 1), .slice Ar p.length cr] := by rw [hW8]; exact (hbn7.alloc _).alloc _
            rw [← hW8] at hb9 hb8 hB8
            clear hW8
            have ha9 := ha8.below hb9 ha8.lt
            have hbn9 := hbn8.below hb9 hbn8.lt
            have u0 : w9.cell? ⟨w7.heap.size + 1, 0, none⟩ = some (.int .u64 gh) := ha9.cell 0
            have u1 : w9.cell? ⟨w7.heap.size + 1, 1, none⟩ = some (.slice A7 ph.length c7) := ha9.cell 1
            have t0 : w9.cell? ⟨bn, 0, none⟩ = some (.int .u64 ((k : Int) + 1)) := hbn9.cell 0
            have t1 : w9.cell? ⟨bn, 1, none⟩ = some (.slice Ar p.length cr) := hbn9.cell 1
            have HS2 := Lib.hid (hsame_any gh A7 ph c7 ((k : Int) + 1) Ar p cr w9 (hby7.keep (BK.of_below (hb8.trans (hb9.mono hb8.size)))).1 (hcp0.below hB9).whole hpl2)
            go_wp2_with fail
            refine HS2.out.mono ?_
            clear HS2
            rintro e w10 ⟨rfl, hb10⟩
            rw [show decide ((gh, ph) = ((k : Int) + 1, p)) = true from decide_eq_true HEQ.out]
            go_wp2
            go_ret
            exact ⟨rfl, hB9.trans (hb10.mono hB9.size)⟩
    · have hgk : ¬ (k : Int) < (rs.length : Int) := by omega
      obtain ⟨sT, hsT⟩ : ∃ sT, sT = s := ⟨_, rfl⟩
      have hszT : sT.size = 3 := by rw [hsT]; exact hCU.size
      have hpnT : sT.pend.length ≤ 1000000000 := by rw [hsT, hCU.pend]; exact Nat.zero_le _
      have HWAS : Hid (openH (cutS sT keep) = (gw, lw)) := Lib.hid (by rw [hsT]; exact hCU.cut keep)
      have hMT : Many w.heap.size wr [(g, sT)] := by rw [hsT]; exact hM
      have hBT := hB
      have hbwT := hbw
      have hbnT := hbn
      clear hsT hM hB hbw hbn hCU
      have HC := Lib.hid (many_cut (i := 0) hMT hBT.size rfl K keep kc (by rw [hszT]; decide) (by rw [hszT]; decide) hpnT (hkc.below hBT).whole hkl)
      have ho := open_cut sT hszT keep
      have HO := Lib.hid ho
      clear ho
      go_wp2_with fail
      refine HC.out.mono ?_
      clear HC
      rintro e w6 ⟨g2, rfl, m6, hb6⟩
      have m6' : Many w.heap.size w6 [(g, sT), (g2, cutS sT keep)] := m6
      have hB6 := hBT.trans (hb6.mono hBT.size)
      have hbw6 := hbwT.below hb6 hbwT.lt
      have hbn6 := hbnT.below hb6 hbnT.lt
      have hc := many_open (i := 1) m6' hB6.size rfl
      unfold OpenP at hc
      rw [HO.out.1] at hc
      obtain ⟨hd, hhd⟩ : ∃ hd, openH (cutS sT keep) = hd := ⟨_, rfl⟩
      have hwas := HWAS.out
      rw [hhd] at hc hwas
      have HC := Lib.hid hc
      clear hc HO m6 m6' hb6 hhd HWAS
      obtain ⟨gh, ph⟩ := hd
      simp only at HC
      have HWAS := Lib.hid hwas
      clear hwas
      go_wp2_with fail
      refine HC.out.mono ?_
      clear HC
      rintro e w7 ⟨A7, c7, rfl, hby7, _, hb7, hk7⟩
      have hbw7 := hk7.blk hbw6 free_rhead
      have hbn7 := hk7.blk hbn6 free_rhead
      have hB7 := hB6.trans hb7
      clear hbw6 hbn6 hB6 hb7 hk7
      have hwl := hbw7.lt
      have hnl := hbn7.lt
      have x0 : w7.cell? ⟨bw, 0, none⟩ = some (.int .u64 gw) := hbw7.cell 0
      have x1 : w7.cell? ⟨bw, 1, none⟩ = some (.slice Aw lw.length cw) := hbw7.cell 1
      have hb8 : Below w7.heap.size w7 ((w7.alloc (.cells #[.int .u64 gh, .slice A7 ph.length c7] 30)).alloc (.cells #[.int .u64 gh, .slice A7 ph.length c7] 44)) := ((Below.refl _ _).alloc (Nat.le_refl _) _).alloc (by simp) _
      have hB8 := hB7.trans (hb8.mono hB7.size)

      have hpl : ph.length ≤ 1000 := by have := congrArg (fun x => x.2.length) HWAS.out; simp only at this; omega
      have HEQ := HWAS

      have HS1 := Lib.hid (hsame_any gh A7 ph c7 gw Aw lw cw _ (hby7.keep (BK.of_below hb8)).1 (hcw.below hB8).whole (hpl))
      go_wp2_with fail
      refine HS1.out.mono ?_
      clear HS1
      rintro e w9 ⟨rfl, hb9⟩
      have hB9 := hB8.trans (hb9.mono hB8.size)

      rw [show decide ((gh, ph) = (gw, lw)) = true from decide_eq_true HEQ.out]
      go_wp2
      go_ret
      exact ⟨rfl, hB9⟩
end Go.Proofs.Ytobdbkhjdhnooaa
