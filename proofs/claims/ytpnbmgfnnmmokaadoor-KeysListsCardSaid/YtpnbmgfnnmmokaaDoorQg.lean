/-
  The contracts of the program's reader's read, of keys.Read and munimentref04.Read.
-/
import Derived.Test.YtpnbmgfnnmmokaaDoorQz
import Derived.Test.YtpnbmgfnnmmokaaDoorQe
set_option linter.unusedVariables false
namespace Go.Proofs.YtpnbmgfnnmmokaaDoor
open Go.RowKit

/-- What read answers. -/
def RdIs (b : List Int) (p p' : Nat) (no' : Bool) (j : JV) : Prop := (no' = false → FormedP j 6 ∧ valG true 6 (b.drop p) = some (j, b.drop p')) ∧ (no' = true → ∀ v t, valG true 6 (b.drop p) = some (v, t) → ¬ FormedP v 6)
theorem RdIs.of {b : List Int} {p p' : Nat} {j : JV} {F : Bool} (h : ValIs b 6 p p' false j) (hF : F = true ↔ FormedP j 6) : RdIs b p p' (!F) j := by
  have h1 := h.1 rfl
  refine ⟨fun e => ⟨hF.1 (by simpa using e), h1⟩, fun e v t hv => ?_⟩
  rw [h1] at hv
  injection hv with hv
  injection hv with e1 e2
  rw [← e1, ← hF]
  simpa using e
theorem RdIs.no {b : List Int} {p p' : Nat} {j : JV} (h : ValIs b 6 p p' true j) : RdIs b p p' true j := ⟨(fun e => by cases e), fun _ v t hv => by rw [h.2 rfl] at hv; cases hv⟩
theorem chgB {wh w w' : World} {r : Nat} (h0 : Below wh.heap.size wh w) (hc : Chg w w' (fun k => k = r)) (hr : wh.heap.size ≤ r) : Below wh.heap.size wh w' := h0.trans (hc.below h0.size fun i hi => by omega)
set_option maxHeartbeats 8000000 in
theorem read_any (wh : World) (r : Nat) (A : Option Addr) (c : Nat) (b : List Int) (p : Nat) (w : World) (hT : Tabs wh) (h0 : Below wh.heap.size wh w) (hwr : wh.heap.size ≤ r) (hob : Oct b) (hR : RdAt w r A c b p false) (hc : Cells w r A (U8 b)) (hp : p ≤ b.length) (hl : b.length ≤ 10000000000000) :
    Calls Tryd.prog 29 #[.pointer (some ⟨r, 0, none⟩)] w fun e w' => ∃ (z : LV) (p' : Nat) (no' : Bool), e = .returned z.val ∧ z.At w' ∧ z.On (fun k => w.heap.size ≤ k) ∧ RdAt w' r A c b p' no' ∧ Chg w w' (fun k => k = r) ∧ p' ≤ b.length ∧ RdIs b p p' no' z.j := by
  have hrl : r < w.heap.size := Blk.lt hR
  obtain ⟨W, hW⟩ : ∃ W, W = w.alloc (.cells zeroBlk 25) := ⟨_, rfl⟩
  obtain ⟨gr, hgr⟩ : ∃ g, w.heap.size = g := ⟨_, rfl⟩
  have hZ : Blk W gr 25 zeroBlk := by rw [hW, ← hgr]; exact Blk.new w _ _
  have hCW : Chg w W (fun k => k = r) := by rw [hW]; exact Chg.alloc w _ _
  have hRW : RdAt W r A c b p false := by rw [hW]; exact Blk.alloc hR _
  have HC := Lib.hid (value_read r A c b hob hl 6 p W (by omega) hRW (hc.chgR hrl hCW) hp)
  have HGR := Lib.hid hgr
  have HW := Lib.hid hW
  have HT := Lib.hid hT
  have H0 := Lib.hid h0
  have hrg : r < gr := by omega
  have hWs := hCW.size
  clear hW hR hc hT h0 hRW
  go_enter Tryd.func29, Tryd.ntmps29
  go_upto_region 1 with fail
  first | rw [← HW.out, hgr] | rw [← HW.out]
  go_wp2_with fail
  refine HC.out.mono ?_
  rintro e w1 ⟨z, p1, n1, he, hz1, hzo1, hR1, hC1, hp1, hvi⟩
  obtain ⟨kz, nz, sz, Anz, nsz, cnz, Aiz, isz, ciz⟩ := z
  have he' := val_agg he
  clear he HC
  subst he'
  have hC01 := hCW.thenC hC1
  have hbh1 := chgB H0.out hC01 hwr
  have hs1 := hC1.size
  obtain ⟨gz, hgz⟩ : ∃ g, w1.heap.size = g := ⟨_, rfl⟩
  obtain ⟨w2, hw2⟩ : ∃ w2, w2 = w1.alloc (.cells #[.int .i64 kz, .int .i64 nz, .string sz, .slice Anz nsz.length cnz, .slice Aiz isz.length ciz] 25) := ⟨_, rfl⟩
  have hZ2 : Blk w2 gz 25 #[.int .i64 kz, .int .i64 nz, .string sz, .slice Anz nsz.length cnz, .slice Aiz isz.length ciz] := by rw [hw2, ← hgz]; exact Blk.new w1 _ _
  have hb12 : Below w1.heap.size w1 w2 := by rw [hw2]; exact (Below.refl _ _).alloc (Nat.le_refl _) _
  have hz2 := LV.At.below hb12 _ hz1
  have hbh2 := hbh1.trans (hb12.mono hbh1.size)
  have hR2 : RdAt w2 r A c b p1 n1 := by rw [hw2]; exact Blk.alloc hR1 _
  have hr2 : Blk w2 gr 25 zeroBlk := by rw [hw2]; exact (hZ.chg hC1 (by omega)).alloc _
  have hC02 : Chg w w2 (fun k => k = r) := by rw [hw2]; exact hC01.thenC (Chg.alloc w1 _ _)
  have HVI := Lib.hid hvi
  have HW2 := Lib.hid hw2
  have hlz : r < gz ∧ gr < gz := by have h1 : gr < W.heap.size := hZ.lt; omega
  clear hw2 hvi hz1 hR1
  go_upto_region 2 with fail
  first | rw [← HW2.out, hgz] | rw [← HW2.out]
  clear hgz hgr
  have hzo : (LV.mk kz nz sz Anz nsz cnz Aiz isz ciz).On (fun k => k ≠ gr) := LV.On.mono (fun k hk => by have h1 : gr < W.heap.size := hZ.lt; omega) _ hzo1
  have hzw : (LV.mk kz nz sz Anz nsz cnz Aiz isz ciz).On (fun k => w.heap.size ≤ k) := LV.On.mono (fun k hk => Nat.le_trans hCW.size hk) _ hzo1
  have hzr : (LV.mk kz nz sz Anz nsz cnz Aiz isz ciz).On (fun k => k ≠ r) := LV.On.mono (fun k hk => by omega) _ hzo1
  cases n1 with
  | true =>
    have HV := Lib.hid (RdIs.no HVI.out)
    obtain ⟨q0, q1, q2⟩ : w2.cell? ⟨r, 0, none⟩ = some (.slice A b.length c) ∧ w2.cell? ⟨r, 1, none⟩ = some (.int .i64 (p1 : Nat)) ∧ w2.cell? ⟨r, 2, none⟩ = some (.bool true) := ⟨Blk.cell hR2 0, Blk.cell hR2 1, Blk.cell hR2 2⟩
    have fr2 : w2.frozen? ⟨r, 2, none⟩ = false := Blk.free hR2 2
    obtain ⟨w5, hw5⟩ : ∃ w5, w5 = w2.setCell ⟨r, 2, none⟩ (.bool true) := ⟨_, rfl⟩
    have hC5 : Chg w2 w5 (fun k => k = r) := by rw [hw5]; exact Chg.setCell w2 ⟨r, 2, none⟩ _
    have hR5 : RdAt w5 r A c b p1 true := by unfold RdAt; rw [hw5]; have := (show Blk w2 r 54 #[.slice A b.length c, .int .i64 (p1 : Nat), .bool true] from hR2).set_ 2 (.bool true); simpa using this
    have hr5 := hr2.chg hC5 (by omega)
    have hZ5 := hZ2.chg hC5 (by omega)
    have hz5 : (LV.mk kz nz sz Anz nsz cnz Aiz isz ciz).At w5 := LV.At.move (S := fun k => k ≠ r) (fun k hk hl => hC5.block k hl hk) hC5.size _ hz2 hzr
    have hC05 := hC02.thenC hC5
    have HW5 := Lib.hid hw5
    clear hw5
    go_upto_region 3 with fail
    rw [← HW5.out]
    clear q0 q1 q2 fr2
    obtain ⟨d0, d1, d2, d3, d4⟩ : w5.cell? ⟨gz, 0, none⟩ = some (.int .i64 kz) ∧ w5.cell? ⟨gz, 1, none⟩ = some (.int .i64 nz) ∧ w5.cell? ⟨gz, 2, none⟩ = some (.string sz) ∧ w5.cell? ⟨gz, 3, none⟩ = some (.slice Anz nsz.length cnz) ∧ w5.cell? ⟨gz, 4, none⟩ = some (.slice Aiz isz.length ciz) := ⟨hZ5.cell 0, hZ5.cell 1, hZ5.cell 2, hZ5.cell 3, hZ5.cell 4⟩
    obtain ⟨x0, x1, x2, x3, x4⟩ : w5.cell? ⟨gr, 0, none⟩ = some (.int .i64 0) ∧ w5.cell? ⟨gr, 1, none⟩ = some (.int .i64 0) ∧ w5.cell? ⟨gr, 2, none⟩ = some (.string ⟨#[]⟩) ∧ w5.cell? ⟨gr, 3, none⟩ = some (.slice none 0 0) ∧ w5.cell? ⟨gr, 4, none⟩ = some (.slice none 0 0) := ⟨hr5.cell 0, hr5.cell 1, hr5.cell 2, hr5.cell 3, hr5.cell 4⟩
    obtain ⟨y0, y1, y2, y3, y4⟩ : w5.frozen? ⟨gr, 0, none⟩ = false ∧ w5.frozen? ⟨gr, 1, none⟩ = false ∧ w5.frozen? ⟨gr, 2, none⟩ = false ∧ w5.frozen? ⟨gr, 3, none⟩ = false ∧ w5.frozen? ⟨gr, 4, none⟩ = false := ⟨hr5.free 0, hr5.free 1, hr5.free 2, hr5.free 3, hr5.free 4⟩
    obtain ⟨W9, hW9⟩ : ∃ W9, W9 = (((((w5.setCell ⟨gr, 0, none⟩ (.int .i64 kz)).setCell ⟨gr, 1, none⟩ (.int .i64 nz)).setCell ⟨gr, 2, none⟩ (.string sz)).setCell ⟨gr, 3, none⟩ (.slice Anz nsz.length cnz)).setCell ⟨gr, 4, none⟩ (.slice Aiz isz.length ciz)) := ⟨_, rfl⟩
    have hC9 : Chg w5 W9 (fun k => k = gr) := by rw [hW9]; exact chg_five w5 gr (.int .i64 kz) (.int .i64 nz) (.string sz) (.slice Anz nsz.length cnz) (.slice Aiz isz.length ciz)
    have hZ9 : Blk W9 gr 25 #[.int .i64 kz, .int .i64 nz, .string sz, .slice Anz nsz.length cnz, .slice Aiz isz.length ciz] := by rw [hW9]; exact hr5.five (.int .i64 kz) (.int .i64 nz) (.string sz) (.slice Anz nsz.length cnz) (.slice Aiz isz.length ciz)
    obtain ⟨j0, j1, j2, j3, j4⟩ : W9.cell? ⟨gr, 0, none⟩ = some (.int .i64 kz) ∧ W9.cell? ⟨gr, 1, none⟩ = some (.int .i64 nz) ∧ W9.cell? ⟨gr, 2, none⟩ = some (.string sz) ∧ W9.cell? ⟨gr, 3, none⟩ = some (.slice Anz nsz.length cnz) ∧ W9.cell? ⟨gr, 4, none⟩ = some (.slice Aiz isz.length ciz) := ⟨hZ9.cell 0, hZ9.cell 1, hZ9.cell 2, hZ9.cell 3, hZ9.cell 4⟩
    have HC9 := Lib.hid hC9
    have HW9 := Lib.hid hW9
    clear hW9 hC9
    have hz9 : (LV.mk kz nz sz Anz nsz cnz Aiz isz ciz).At W9 := LV.At.move (S := fun k => k ≠ gr) (fun k hk hl => HC9.out.block k hl hk) HC9.out.size _ hz5 hzo
    have hC09 : Chg w W9 (fun k => k = r) := ⟨HC9.out.os.trans hC05.os, HC9.out.tape.trans hC05.tape, HC9.out.output.trans hC05.output, Nat.le_trans hC05.size HC9.out.size, fun k hk hne => (HC9.out.block k (Nat.lt_of_lt_of_le hk hC05.size) (by have := HGR.out; omega)).trans (hC05.block k hk hne)⟩
    have hR9 : RdAt W9 r A c b p1 true := RdAt.chg hR5 HC9.out (by omega)
    go_wp2
    rw [← HW9.out]
    exact bodyPost_ret (v := .agg #[.int .i64 kz, .int .i64 nz, .string sz, .slice Anz nsz.length cnz, .slice Aiz isz.length ciz]) (by simp [results, Tryd.results29, go_sem, j0, j1, j2, j3, j4]) rfl ⟨(LV.mk kz nz sz Anz nsz cnz Aiz isz ciz), p1, true, rfl, hz9, hzw, hR9, hC09, hp1, HV.out⟩
  | false =>
  have HFO := Lib.hid (jformed_any (LV.mk kz nz sz Anz nsz cnz Aiz isz ciz) w2 hz2 (HT.out.below hbh2))
  obtain ⟨q0, q1, q2⟩ : w2.cell? ⟨r, 0, none⟩ = some (.slice A b.length c) ∧ w2.cell? ⟨r, 1, none⟩ = some (.int .i64 (p1 : Nat)) ∧ w2.cell? ⟨r, 2, none⟩ = some (.bool false) := ⟨Blk.cell hR2 0, Blk.cell hR2 1, Blk.cell hR2 2⟩
  obtain ⟨d0, d1, d2, d3, d4⟩ : w2.cell? ⟨gz, 0, none⟩ = some (.int .i64 kz) ∧ w2.cell? ⟨gz, 1, none⟩ = some (.int .i64 nz) ∧ w2.cell? ⟨gz, 2, none⟩ = some (.string sz) ∧ w2.cell? ⟨gz, 3, none⟩ = some (.slice Anz nsz.length cnz) ∧ w2.cell? ⟨gz, 4, none⟩ = some (.slice Aiz isz.length ciz) := ⟨hZ2.cell 0, hZ2.cell 1, hZ2.cell 2, hZ2.cell 3, hZ2.cell 4⟩
  go_wp2_with fail
  refine HFO.out.mono ?_
  rintro e w3 ⟨⟨F, rfl, hF⟩, hb3⟩
  clear d0 d1 d2 d3 d4 q0 q1 q2
  have hR3 : RdAt w3 r A c b p1 false := Blk.below hR2 hb3 (Blk.lt hR2)
  have hr3 := hr2.below hb3 hr2.lt
  have hZ3 := hZ2.below hb3 hZ2.lt
  have hz3 := LV.At.below hb3 _ hz2
  have hC03 : Chg w w3 (fun k => k = r) := hC02.thenB (hb3.mono hC02.size)
  have HV := Lib.hid (RdIs.of HVI.out hF)
  clear hF
  cases F with
  | true =>
    obtain ⟨q0, q1, q2⟩ : w3.cell? ⟨r, 0, none⟩ = some (.slice A b.length c) ∧ w3.cell? ⟨r, 1, none⟩ = some (.int .i64 (p1 : Nat)) ∧ w3.cell? ⟨r, 2, none⟩ = some (.bool false) := ⟨Blk.cell hR3 0, Blk.cell hR3 1, Blk.cell hR3 2⟩
    have fr2 : w3.frozen? ⟨r, 2, none⟩ = false := Blk.free hR3 2
    obtain ⟨w5, hw5⟩ : ∃ w5, w5 = w3.setCell ⟨r, 2, none⟩ (.bool false) := ⟨_, rfl⟩
    have hC5 : Chg w3 w5 (fun k => k = r) := by rw [hw5]; exact Chg.setCell w3 ⟨r, 2, none⟩ _
    have hR5 : RdAt w5 r A c b p1 false := by unfold RdAt; rw [hw5]; have := (show Blk w3 r 54 #[.slice A b.length c, .int .i64 (p1 : Nat), .bool false] from hR3).set_ 2 (.bool false); simpa using this
    have hr5 := hr3.chg hC5 (by omega)
    have hZ5 := hZ3.chg hC5 (by omega)
    have hz5 : (LV.mk kz nz sz Anz nsz cnz Aiz isz ciz).At w5 := LV.At.move (S := fun k => k ≠ r) (fun k hk hl => hC5.block k hl hk) hC5.size _ hz3 hzr
    have hC05 := hC03.thenC hC5
    have HW5 := Lib.hid hw5
    clear hw5
    rw [HW5.out] at hZ5 hr5 hC5
    obtain ⟨d0, d1, d2, d3, d4⟩ : (w3.setCell ⟨r, 2, none⟩ (.bool false)).cell? ⟨gz, 0, none⟩ = some (.int .i64 kz) ∧ (w3.setCell ⟨r, 2, none⟩ (.bool false)).cell? ⟨gz, 1, none⟩ = some (.int .i64 nz) ∧ (w3.setCell ⟨r, 2, none⟩ (.bool false)).cell? ⟨gz, 2, none⟩ = some (.string sz) ∧ (w3.setCell ⟨r, 2, none⟩ (.bool false)).cell? ⟨gz, 3, none⟩ = some (.slice Anz nsz.length cnz) ∧ (w3.setCell ⟨r, 2, none⟩ (.bool false)).cell? ⟨gz, 4, none⟩ = some (.slice Aiz isz.length ciz) := ⟨hZ5.cell 0, hZ5.cell 1, hZ5.cell 2, hZ5.cell 3, hZ5.cell 4⟩
    obtain ⟨x0, x1, x2, x3, x4⟩ : (w3.setCell ⟨r, 2, none⟩ (.bool false)).cell? ⟨gr, 0, none⟩ = some (.int .i64 0) ∧ (w3.setCell ⟨r, 2, none⟩ (.bool false)).cell? ⟨gr, 1, none⟩ = some (.int .i64 0) ∧ (w3.setCell ⟨r, 2, none⟩ (.bool false)).cell? ⟨gr, 2, none⟩ = some (.string ⟨#[]⟩) ∧ (w3.setCell ⟨r, 2, none⟩ (.bool false)).cell? ⟨gr, 3, none⟩ = some (.slice none 0 0) ∧ (w3.setCell ⟨r, 2, none⟩ (.bool false)).cell? ⟨gr, 4, none⟩ = some (.slice none 0 0) := ⟨hr5.cell 0, hr5.cell 1, hr5.cell 2, hr5.cell 3, hr5.cell 4⟩
    obtain ⟨y0, y1, y2, y3, y4⟩ : (w3.setCell ⟨r, 2, none⟩ (.bool false)).frozen? ⟨gr, 0, none⟩ = false ∧ (w3.setCell ⟨r, 2, none⟩ (.bool false)).frozen? ⟨gr, 1, none⟩ = false ∧ (w3.setCell ⟨r, 2, none⟩ (.bool false)).frozen? ⟨gr, 2, none⟩ = false ∧ (w3.setCell ⟨r, 2, none⟩ (.bool false)).frozen? ⟨gr, 3, none⟩ = false ∧ (w3.setCell ⟨r, 2, none⟩ (.bool false)).frozen? ⟨gr, 4, none⟩ = false := ⟨hr5.free 0, hr5.free 1, hr5.free 2, hr5.free 3, hr5.free 4⟩
    obtain ⟨W9, hW9⟩ : ∃ W9, W9 = ((((((w3.setCell ⟨r, 2, none⟩ (.bool false)).setCell ⟨gr, 0, none⟩ (.int .i64 kz)).setCell ⟨gr, 1, none⟩ (.int .i64 nz)).setCell ⟨gr, 2, none⟩ (.string sz)).setCell ⟨gr, 3, none⟩ (.slice Anz nsz.length cnz)).setCell ⟨gr, 4, none⟩ (.slice Aiz isz.length ciz)) := ⟨_, rfl⟩
    have hC9 : Chg (w3.setCell ⟨r, 2, none⟩ (.bool false)) W9 (fun k => k = gr) := by rw [hW9]; exact chg_five (w3.setCell ⟨r, 2, none⟩ (.bool false)) gr (.int .i64 kz) (.int .i64 nz) (.string sz) (.slice Anz nsz.length cnz) (.slice Aiz isz.length ciz)
    have hZ9 : Blk W9 gr 25 #[.int .i64 kz, .int .i64 nz, .string sz, .slice Anz nsz.length cnz, .slice Aiz isz.length ciz] := by rw [hW9]; exact hr5.five (.int .i64 kz) (.int .i64 nz) (.string sz) (.slice Anz nsz.length cnz) (.slice Aiz isz.length ciz)
    obtain ⟨j0, j1, j2, j3, j4⟩ : W9.cell? ⟨gr, 0, none⟩ = some (.int .i64 kz) ∧ W9.cell? ⟨gr, 1, none⟩ = some (.int .i64 nz) ∧ W9.cell? ⟨gr, 2, none⟩ = some (.string sz) ∧ W9.cell? ⟨gr, 3, none⟩ = some (.slice Anz nsz.length cnz) ∧ W9.cell? ⟨gr, 4, none⟩ = some (.slice Aiz isz.length ciz) := ⟨hZ9.cell 0, hZ9.cell 1, hZ9.cell 2, hZ9.cell 3, hZ9.cell 4⟩
    have HC9 := Lib.hid hC9
    have HW9 := Lib.hid hW9
    clear hW9 hC9
    rw [← HW5.out] at HC9
    have hz9 : (LV.mk kz nz sz Anz nsz cnz Aiz isz ciz).At W9 := LV.At.move (S := fun k => k ≠ gr) (fun k hk hl => HC9.out.block k hl hk) HC9.out.size _ hz5 hzo
    have hC09 : Chg w W9 (fun k => k = r) := ⟨HC9.out.os.trans hC05.os, HC9.out.tape.trans hC05.tape, HC9.out.output.trans hC05.output, Nat.le_trans hC05.size HC9.out.size, fun k hk hne => (HC9.out.block k (Nat.lt_of_lt_of_le hk hC05.size) (by have := HGR.out; omega)).trans (hC05.block k hk hne)⟩
    have hR9 : RdAt W9 r A c b p1 false := RdAt.chg hR5 HC9.out (by omega)
    go_wp2
    rw [← HW9.out]
    exact bodyPost_ret (v := .agg #[.int .i64 kz, .int .i64 nz, .string sz, .slice Anz nsz.length cnz, .slice Aiz isz.length ciz]) (by simp [results, Tryd.results29, go_sem, j0, j1, j2, j3, j4]) rfl ⟨(LV.mk kz nz sz Anz nsz cnz Aiz isz ciz), p1, false, rfl, hz9, hzw, hR9, hC09, hp1, HV.out⟩
  | false =>
    obtain ⟨q0, q1, q2⟩ : w3.cell? ⟨r, 0, none⟩ = some (.slice A b.length c) ∧ w3.cell? ⟨r, 1, none⟩ = some (.int .i64 (p1 : Nat)) ∧ w3.cell? ⟨r, 2, none⟩ = some (.bool false) := ⟨Blk.cell hR3 0, Blk.cell hR3 1, Blk.cell hR3 2⟩
    have fr2 : w3.frozen? ⟨r, 2, none⟩ = false := Blk.free hR3 2
    obtain ⟨w5, hw5⟩ : ∃ w5, w5 = w3.setCell ⟨r, 2, none⟩ (.bool true) := ⟨_, rfl⟩
    have hC5 : Chg w3 w5 (fun k => k = r) := by rw [hw5]; exact Chg.setCell w3 ⟨r, 2, none⟩ _
    have hR5 : RdAt w5 r A c b p1 true := by unfold RdAt; rw [hw5]; have := (show Blk w3 r 54 #[.slice A b.length c, .int .i64 (p1 : Nat), .bool false] from hR3).set_ 2 (.bool true); simpa using this
    have hr5 := hr3.chg hC5 (by omega)
    have hZ5 := hZ3.chg hC5 (by omega)
    have hz5 : (LV.mk kz nz sz Anz nsz cnz Aiz isz ciz).At w5 := LV.At.move (S := fun k => k ≠ r) (fun k hk hl => hC5.block k hl hk) hC5.size _ hz3 hzr
    have hC05 := hC03.thenC hC5
    have HW5 := Lib.hid hw5
    clear hw5
    rw [HW5.out] at hZ5 hr5 hC5
    obtain ⟨d0, d1, d2, d3, d4⟩ : (w3.setCell ⟨r, 2, none⟩ (.bool true)).cell? ⟨gz, 0, none⟩ = some (.int .i64 kz) ∧ (w3.setCell ⟨r, 2, none⟩ (.bool true)).cell? ⟨gz, 1, none⟩ = some (.int .i64 nz) ∧ (w3.setCell ⟨r, 2, none⟩ (.bool true)).cell? ⟨gz, 2, none⟩ = some (.string sz) ∧ (w3.setCell ⟨r, 2, none⟩ (.bool true)).cell? ⟨gz, 3, none⟩ = some (.slice Anz nsz.length cnz) ∧ (w3.setCell ⟨r, 2, none⟩ (.bool true)).cell? ⟨gz, 4, none⟩ = some (.slice Aiz isz.length ciz) := ⟨hZ5.cell 0, hZ5.cell 1, hZ5.cell 2, hZ5.cell 3, hZ5.cell 4⟩
    obtain ⟨x0, x1, x2, x3, x4⟩ : (w3.setCell ⟨r, 2, none⟩ (.bool true)).cell? ⟨gr, 0, none⟩ = some (.int .i64 0) ∧ (w3.setCell ⟨r, 2, none⟩ (.bool true)).cell? ⟨gr, 1, none⟩ = some (.int .i64 0) ∧ (w3.setCell ⟨r, 2, none⟩ (.bool true)).cell? ⟨gr, 2, none⟩ = some (.string ⟨#[]⟩) ∧ (w3.setCell ⟨r, 2, none⟩ (.bool true)).cell? ⟨gr, 3, none⟩ = some (.slice none 0 0) ∧ (w3.setCell ⟨r, 2, none⟩ (.bool true)).cell? ⟨gr, 4, none⟩ = some (.slice none 0 0) := ⟨hr5.cell 0, hr5.cell 1, hr5.cell 2, hr5.cell 3, hr5.cell 4⟩
    obtain ⟨y0, y1, y2, y3, y4⟩ : (w3.setCell ⟨r, 2, none⟩ (.bool true)).frozen? ⟨gr, 0, none⟩ = false ∧ (w3.setCell ⟨r, 2, none⟩ (.bool true)).frozen? ⟨gr, 1, none⟩ = false ∧ (w3.setCell ⟨r, 2, none⟩ (.bool true)).frozen? ⟨gr, 2, none⟩ = false ∧ (w3.setCell ⟨r, 2, none⟩ (.bool true)).frozen? ⟨gr, 3, none⟩ = false ∧ (w3.setCell ⟨r, 2, none⟩ (.bool true)).frozen? ⟨gr, 4, none⟩ = false := ⟨hr5.free 0, hr5.free 1, hr5.free 2, hr5.free 3, hr5.free 4⟩
    obtain ⟨W9, hW9⟩ : ∃ W9, W9 = ((((((w3.setCell ⟨r, 2, none⟩ (.bool true)).setCell ⟨gr, 0, none⟩ (.int .i64 kz)).setCell ⟨gr, 1, none⟩ (.int .i64 nz)).setCell ⟨gr, 2, none⟩ (.string sz)).setCell ⟨gr, 3, none⟩ (.slice Anz nsz.length cnz)).setCell ⟨gr, 4, none⟩ (.slice Aiz isz.length ciz)) := ⟨_, rfl⟩
    have hC9 : Chg (w3.setCell ⟨r, 2, none⟩ (.bool true)) W9 (fun k => k = gr) := by rw [hW9]; exact chg_five (w3.setCell ⟨r, 2, none⟩ (.bool true)) gr (.int .i64 kz) (.int .i64 nz) (.string sz) (.slice Anz nsz.length cnz) (.slice Aiz isz.length ciz)
    have hZ9 : Blk W9 gr 25 #[.int .i64 kz, .int .i64 nz, .string sz, .slice Anz nsz.length cnz, .slice Aiz isz.length ciz] := by rw [hW9]; exact hr5.five (.int .i64 kz) (.int .i64 nz) (.string sz) (.slice Anz nsz.length cnz) (.slice Aiz isz.length ciz)
    obtain ⟨j0, j1, j2, j3, j4⟩ : W9.cell? ⟨gr, 0, none⟩ = some (.int .i64 kz) ∧ W9.cell? ⟨gr, 1, none⟩ = some (.int .i64 nz) ∧ W9.cell? ⟨gr, 2, none⟩ = some (.string sz) ∧ W9.cell? ⟨gr, 3, none⟩ = some (.slice Anz nsz.length cnz) ∧ W9.cell? ⟨gr, 4, none⟩ = some (.slice Aiz isz.length ciz) := ⟨hZ9.cell 0, hZ9.cell 1, hZ9.cell 2, hZ9.cell 3, hZ9.cell 4⟩
    have HC9 := Lib.hid hC9
    have HW9 := Lib.hid hW9
    clear hW9 hC9
    rw [← HW5.out] at HC9
    have hz9 : (LV.mk kz nz sz Anz nsz cnz Aiz isz ciz).At W9 := LV.At.move (S := fun k => k ≠ gr) (fun k hk hl => HC9.out.block k hl hk) HC9.out.size _ hz5 hzo
    have hC09 : Chg w W9 (fun k => k = r) := ⟨HC9.out.os.trans hC05.os, HC9.out.tape.trans hC05.tape, HC9.out.output.trans hC05.output, Nat.le_trans hC05.size HC9.out.size, fun k hk hne => (HC9.out.block k (Nat.lt_of_lt_of_le hk hC05.size) (by have := HGR.out; omega)).trans (hC05.block k hk hne)⟩
    have hR9 : RdAt W9 r A c b p1 true := RdAt.chg hR5 HC9.out (by omega)
    go_wp2
    rw [← HW9.out]
    exact bodyPost_ret (v := .agg #[.int .i64 kz, .int .i64 nz, .string sz, .slice Anz nsz.length cnz, .slice Aiz isz.length ciz]) (by simp [results, Tryd.results29, go_sem, j0, j1, j2, j3, j4]) rfl ⟨(LV.mk kz nz sz Anz nsz cnz Aiz isz ciz), p1, true, rfl, hz9, hzw, hR9, hC09, hp1, HV.out⟩

/-- What Read answers. -/
def ReadRes (X : JV × Nat × Int) (e : Ending) (w' : World) : Prop := ∃ z : LV, e = .returned (.tuple #[z.val, .int .i64 (X.2.1 : Nat), .int .i64 X.2.2]) ∧ z.At w' ∧ z.j = X.1
def ReadResO (w0 : World) (X : JV × Nat × Int) (e : Ending) (w' : World) : Prop := ∃ z : LV, e = .returned (.tuple #[z.val, .int .i64 (X.2.1 : Nat), .int .i64 X.2.2]) ∧ z.At w' ∧ z.j = X.1 ∧ z.On (fun k => w0.heap.size ≤ k)
theorem zero_on (S : Nat → Prop) : zeroV.On S := by unfold zeroV LV.On; exact ⟨(fun a h => by cases h), (fun a h => by cases h), trivial⟩
theorem readX_yes (A : Bool) {b : List Int} {v : JV} {p' : Nat} (h : valG A 6 b = some (v, b.drop p')) (hp : p' ≤ b.length) (hf : FormedP v 6) : readX b = (v, p', 0) := by
  rw [readX_of A h hf, List.length_drop, show b.length - (b.length - p') = p' by omega]
set_option maxHeartbeats 8000000 in
theorem Read_anyO (A : Option Addr) (c : Nat) (b : List Int) (w : World) (hT : Tabs w) (hB : BRow w A c b) (hl : b.length ≤ 10000000000000) :
    Calls Tryd.prog 17 #[.slice A b.length c] w fun e w' => ReadResO w (readX b) e w' ∧ Below w.heap.size w w' := by
  obtain ⟨X, hX⟩ : ∃ X, readX b = X := ⟨_, rfl⟩
  rw [hX]
  have HX := Lib.hid hX
  obtain ⟨W, hW⟩ : ∃ W, W = (w.alloc (.cells zeroBlk 25)).alloc (.cells #[.slice A b.length c, .int .i64 0, .bool false] 54) := ⟨_, rfl⟩
  obtain ⟨gr, hgr⟩ : ∃ g, w.heap.size = g := ⟨_, rfl⟩
  obtain ⟨r, hr⟩ : ∃ g, gr + 1 = g := ⟨_, rfl⟩
  have hZ : Blk W gr 25 zeroBlk := by rw [hW, ← hgr]; exact (Blk.new w _ _).alloc _
  have hR : RdAt W r A c b 0 false := by unfold RdAt; rw [hW, ← hr, ← hgr]; exact Blk.second w _ _ _
  have hbw : Below w.heap.size w W := by rw [hW]; exact ((Below.refl _ _).alloc (Nat.le_refl _) _).alloc (by simp) _
  have hcW : Cells W r A (U8 b) := (hB.cells.below hbw).more (by omega)
  have HC := Lib.hid (read_any w r A c b 0 W hT hbw (by omega) hB.oct hR hcW (Nat.zero_le _) hl)
  have HGR := Lib.hid hgr
  have HW := Lib.hid hW
  have hWs : W.heap.size = r + 1 := by rw [hW]; simp; omega
  have HBW := Lib.hid hbw
  have HRG := Lib.hid hr
  clear hW hB hT hcW hX hbw
  go_enter Tryd.func17, Tryd.ntmps17
  go_upto_region 2 with fail
  first | rw [← HW.out, hgr, hr] | rw [← HW.out, hr] | rw [← HW.out]
  go_wp2_with fail
  refine HC.out.mono ?_
  rintro e w1 ⟨z, p1, n1, he, hz1, hzo1, hR1, hC1, hp1, hri⟩
  obtain ⟨kz, nz, sz, Anz, nsz, cnz, Aiz, isz, ciz⟩ := z
  have he' := val_agg he
  clear he HC
  subst he'
  have hs1 := hC1.size
  obtain ⟨gz, hgz⟩ : ∃ g, w1.heap.size = g := ⟨_, rfl⟩
  obtain ⟨w2, hw2⟩ : ∃ w2, w2 = w1.alloc (.cells #[.int .i64 kz, .int .i64 nz, .string sz, .slice Anz nsz.length cnz, .slice Aiz isz.length ciz] 25) := ⟨_, rfl⟩
  have hZ2 : Blk w2 gz 25 #[.int .i64 kz, .int .i64 nz, .string sz, .slice Anz nsz.length cnz, .slice Aiz isz.length ciz] := by rw [hw2, ← hgz]; exact Blk.new w1 _ _
  have hb12 : Below w1.heap.size w1 w2 := by rw [hw2]; exact (Below.refl _ _).alloc (Nat.le_refl _) _
  have hz2 := LV.At.below hb12 _ hz1
  have hR2 : RdAt w2 r A c b p1 n1 := by rw [hw2]; exact Blk.alloc hR1 _
  have hr2 : Blk w2 gr 25 zeroBlk := by rw [hw2]; exact (hZ.chg hC1 (by omega)).alloc _
  have hb02 : Hid (Below w.heap.size w w2) := Lib.hid ((chgB HBW.out hC1 (by have := HGR.out; omega)).trans (hb12.mono (chgB HBW.out hC1 (by have := HGR.out; omega)).size))
  have HRI := Lib.hid hri
  have HZO : Hid ((LV.mk kz nz sz Anz nsz cnz Aiz isz ciz).On (fun k => k ≠ gr)) := Lib.hid (LV.On.mono (fun k hk => by omega) _ hzo1)
  have HW2 := Lib.hid hw2
  have hgg : gr < r ∧ r < gz := by omega
  have HZW : Hid ((LV.mk kz nz sz Anz nsz cnz Aiz isz ciz).On (fun k => w.heap.size ≤ k)) := Lib.hid (LV.On.mono (fun k hk => by have := HBW.out.size; omega) _ hzo1)
  clear hw2 hri hz1 hR1
  go_upto_region 3 with fail
  first | rw [← HW2.out, hgz] | rw [← HW2.out]
  clear hgz hgr hr
  obtain ⟨q0, q1, q2⟩ : w2.cell? ⟨r, 0, none⟩ = some (.slice A b.length c) ∧ w2.cell? ⟨r, 1, none⟩ = some (.int .i64 (p1 : Nat)) ∧ w2.cell? ⟨r, 2, none⟩ = some (.bool n1) := ⟨Blk.cell hR2 0, Blk.cell hR2 1, Blk.cell hR2 2⟩
  obtain ⟨d0, d1, d2, d3, d4⟩ : w2.cell? ⟨gz, 0, none⟩ = some (.int .i64 kz) ∧ w2.cell? ⟨gz, 1, none⟩ = some (.int .i64 nz) ∧ w2.cell? ⟨gz, 2, none⟩ = some (.string sz) ∧ w2.cell? ⟨gz, 3, none⟩ = some (.slice Anz nsz.length cnz) ∧ w2.cell? ⟨gz, 4, none⟩ = some (.slice Aiz isz.length ciz) := ⟨hZ2.cell 0, hZ2.cell 1, hZ2.cell 2, hZ2.cell 3, hZ2.cell 4⟩
  cases n1 with
  | true =>
    have HE : Hid (X = (zeroK, 0, 11)) := Lib.hid (by rw [← HX.out]; exact readX_no true fun v t h => HRI.out.2 rfl v t (by rw [List.drop_zero]; exact h))
    obtain ⟨x0, x1, x2, x3, x4⟩ : w2.cell? ⟨gr, 0, none⟩ = some (.int .i64 0) ∧ w2.cell? ⟨gr, 1, none⟩ = some (.int .i64 0) ∧ w2.cell? ⟨gr, 2, none⟩ = some (.string ⟨#[]⟩) ∧ w2.cell? ⟨gr, 3, none⟩ = some (.slice none 0 0) ∧ w2.cell? ⟨gr, 4, none⟩ = some (.slice none 0 0) := ⟨hr2.cell 0, hr2.cell 1, hr2.cell 2, hr2.cell 3, hr2.cell 4⟩
    obtain ⟨y0, y1, y2, y3, y4⟩ : w2.frozen? ⟨gr, 0, none⟩ = false ∧ w2.frozen? ⟨gr, 1, none⟩ = false ∧ w2.frozen? ⟨gr, 2, none⟩ = false ∧ w2.frozen? ⟨gr, 3, none⟩ = false ∧ w2.frozen? ⟨gr, 4, none⟩ = false := ⟨hr2.free 0, hr2.free 1, hr2.free 2, hr2.free 3, hr2.free 4⟩
    obtain ⟨W9, hW9⟩ : ∃ W9, W9 = (((((w2.setCell ⟨gr, 0, none⟩ (.int .i64 0)).setCell ⟨gr, 1, none⟩ (.int .i64 0)).setCell ⟨gr, 2, none⟩ (.string ⟨#[]⟩)).setCell ⟨gr, 3, none⟩ (.slice none 0 0)).setCell ⟨gr, 4, none⟩ (.slice none 0 0)) := ⟨_, rfl⟩
    have hC9 : Chg w2 W9 (fun k => k = gr) := by rw [hW9]; exact chg_five w2 gr (.int .i64 0) (.int .i64 0) (.string ⟨#[]⟩) (.slice none 0 0) (.slice none 0 0)
    have hZ9 : Blk W9 gr 25 #[.int .i64 0, .int .i64 0, .string ⟨#[]⟩, .slice none 0 0, .slice none 0 0] := by rw [hW9]; exact hr2.five (.int .i64 0) (.int .i64 0) (.string ⟨#[]⟩) (.slice none 0 0) (.slice none 0 0)
    obtain ⟨j0, j1, j2, j3, j4⟩ : W9.cell? ⟨gr, 0, none⟩ = some (.int .i64 0) ∧ W9.cell? ⟨gr, 1, none⟩ = some (.int .i64 0) ∧ W9.cell? ⟨gr, 2, none⟩ = some (.string ⟨#[]⟩) ∧ W9.cell? ⟨gr, 3, none⟩ = some (.slice none 0 0) ∧ W9.cell? ⟨gr, 4, none⟩ = some (.slice none 0 0) := ⟨hZ9.cell 0, hZ9.cell 1, hZ9.cell 2, hZ9.cell 3, hZ9.cell 4⟩
    have HC9 := Lib.hid hC9
    have HW9 := Lib.hid hW9
    clear hW9 hC9
    have HBF : Hid (Below w.heap.size w W9) := Lib.hid (hb02.out.trans (HC9.out.below hb02.out.size fun i hi => by have := HGR.out; omega))
    go_wp2
    rw [← HW9.out]
    exact bodyPost_ret (v := .tuple #[.agg #[.int .i64 0, .int .i64 0, .string ⟨#[]⟩, .slice none 0 0, .slice none 0 0], .int .i64 0, .int .i64 11]) (by simp [results, Tryd.results17, go_sem, j0, j1, j2, j3, j4]) rfl ⟨⟨zeroV, by rw [HE.out]; rfl, zero_at _, by rw [HE.out]; rfl, zero_on _⟩, (by first | exact HBF.out | (rw [← HGR.out]; exact HBF.out))⟩
  | false =>
    obtain ⟨hf, hv⟩ := HRI.out.1 rfl
    have HE : Hid (X = ((LV.mk kz nz sz Anz nsz cnz Aiz isz ciz).j, p1, 0)) := Lib.hid (by rw [← HX.out]; rw [List.drop_zero] at hv; exact readX_yes true hv hp1 hf)
    clear hf hv
    obtain ⟨x0, x1, x2, x3, x4⟩ : w2.cell? ⟨gr, 0, none⟩ = some (.int .i64 0) ∧ w2.cell? ⟨gr, 1, none⟩ = some (.int .i64 0) ∧ w2.cell? ⟨gr, 2, none⟩ = some (.string ⟨#[]⟩) ∧ w2.cell? ⟨gr, 3, none⟩ = some (.slice none 0 0) ∧ w2.cell? ⟨gr, 4, none⟩ = some (.slice none 0 0) := ⟨hr2.cell 0, hr2.cell 1, hr2.cell 2, hr2.cell 3, hr2.cell 4⟩
    obtain ⟨y0, y1, y2, y3, y4⟩ : w2.frozen? ⟨gr, 0, none⟩ = false ∧ w2.frozen? ⟨gr, 1, none⟩ = false ∧ w2.frozen? ⟨gr, 2, none⟩ = false ∧ w2.frozen? ⟨gr, 3, none⟩ = false ∧ w2.frozen? ⟨gr, 4, none⟩ = false := ⟨hr2.free 0, hr2.free 1, hr2.free 2, hr2.free 3, hr2.free 4⟩
    obtain ⟨W9, hW9⟩ : ∃ W9, W9 = (((((w2.setCell ⟨gr, 0, none⟩ (.int .i64 kz)).setCell ⟨gr, 1, none⟩ (.int .i64 nz)).setCell ⟨gr, 2, none⟩ (.string sz)).setCell ⟨gr, 3, none⟩ (.slice Anz nsz.length cnz)).setCell ⟨gr, 4, none⟩ (.slice Aiz isz.length ciz)) := ⟨_, rfl⟩
    have hC9 : Chg w2 W9 (fun k => k = gr) := by rw [hW9]; exact chg_five w2 gr (.int .i64 kz) (.int .i64 nz) (.string sz) (.slice Anz nsz.length cnz) (.slice Aiz isz.length ciz)
    have hZ9 : Blk W9 gr 25 #[.int .i64 kz, .int .i64 nz, .string sz, .slice Anz nsz.length cnz, .slice Aiz isz.length ciz] := by rw [hW9]; exact hr2.five (.int .i64 kz) (.int .i64 nz) (.string sz) (.slice Anz nsz.length cnz) (.slice Aiz isz.length ciz)
    obtain ⟨j0, j1, j2, j3, j4⟩ : W9.cell? ⟨gr, 0, none⟩ = some (.int .i64 kz) ∧ W9.cell? ⟨gr, 1, none⟩ = some (.int .i64 nz) ∧ W9.cell? ⟨gr, 2, none⟩ = some (.string sz) ∧ W9.cell? ⟨gr, 3, none⟩ = some (.slice Anz nsz.length cnz) ∧ W9.cell? ⟨gr, 4, none⟩ = some (.slice Aiz isz.length ciz) := ⟨hZ9.cell 0, hZ9.cell 1, hZ9.cell 2, hZ9.cell 3, hZ9.cell 4⟩
    have HC9 := Lib.hid hC9
    have HW9 := Lib.hid hW9
    clear hW9 hC9
    have hz9 : Hid ((LV.mk kz nz sz Anz nsz cnz Aiz isz ciz).At W9) := Lib.hid (LV.At.move (S := fun k => k ≠ gr) (fun k hk hl => HC9.out.block k hl hk) HC9.out.size _ hz2 HZO.out)
    have HBF : Hid (Below w.heap.size w W9) := Lib.hid (hb02.out.trans (HC9.out.below hb02.out.size fun i hi => by have := HGR.out; omega))
    go_upto_region 5 with fail
    go_region
    go_wp2
    rw [← HW9.out]
    obtain ⟨k0, k1, k2, k3, k4⟩ : W9.drew.cell? ⟨gr, 0, none⟩ = some (.int .i64 kz) ∧ W9.drew.cell? ⟨gr, 1, none⟩ = some (.int .i64 nz) ∧ W9.drew.cell? ⟨gr, 2, none⟩ = some (.string sz) ∧ W9.drew.cell? ⟨gr, 3, none⟩ = some (.slice Anz nsz.length cnz) ∧ W9.drew.cell? ⟨gr, 4, none⟩ = some (.slice Aiz isz.length ciz) := ⟨j0, j1, j2, j3, j4⟩
    exact bodyPost_ret (v := .tuple #[.agg #[.int .i64 kz, .int .i64 nz, .string sz, .slice Anz nsz.length cnz, .slice Aiz isz.length ciz], .int .i64 (p1 : Nat), .int .i64 0]) (by simp [results, Tryd.results17, go_sem, k0, k1, k2, k3, k4]) rfl ⟨⟨(LV.mk kz nz sz Anz nsz cnz Aiz isz ciz), by rw [HE.out]; rfl, LV.At.below (Below.refl _ _).drew _ hz9.out, by rw [HE.out], HZW.out⟩, (by first | exact HBF.out.drew | (rw [← HGR.out]; exact HBF.out.drew))⟩

theorem Read_any (A : Option Addr) (c : Nat) (b : List Int) (w : World) (hT : Tabs w) (hB : BRow w A c b) (hl : b.length ≤ 10000000000000) :
    Calls Tryd.prog 17 #[.slice A b.length c] w fun e w' => ReadRes (readX b) e w' ∧ Below w.heap.size w w' :=
  (Read_anyO A c b w hT hB hl).mono fun e w' ⟨⟨z, h1, h2, h3, _⟩, h4⟩ => ⟨⟨z, h1, h2, h3⟩, h4⟩
set_option maxHeartbeats 8000000 in
theorem rRead_any (A : Option Addr) (c : Nat) (b : List Int) (w : World) (hB : BRow w A c b) (hl : b.length ≤ 10000000000000) :
    Calls Tryd.prog 18 #[.slice A b.length c] w fun e w' => ReadRes (readX b) e w' ∧ Below w.heap.size w w' := by
  obtain ⟨X, hX⟩ : ∃ X, readX b = X := ⟨_, rfl⟩
  rw [hX]
  have HX := Lib.hid hX
  obtain ⟨Y, hY⟩ : ∃ Y, valG false 6 b = Y := ⟨_, rfl⟩
  have HY := Lib.hid hY
  obtain ⟨W, hW⟩ : ∃ W, W = w.alloc (.cells zeroBlk 25) := ⟨_, rfl⟩
  obtain ⟨gr, hgr⟩ : ∃ g, w.heap.size = g := ⟨_, rfl⟩
  have hZ : Blk W gr 25 zeroBlk := by rw [hW, ← hgr]; exact Blk.new w _ _
  have hbw : Below w.heap.size w W := by rw [hW]; exact (Below.refl _ _).alloc (Nat.le_refl _) _
  have HC : Hid (Calls Tryd.prog 30 #[.slice A b.length c, .int .i64 6] W fun e w' => RvIs w W Y e w' ∧ Below W.heap.size W w') := Lib.hid (by rw [← hY]; exact rvalue_any w 6 A c b W (by omega) hB hbw hl)
  have HGR := Lib.hid hgr
  have HW := Lib.hid hW
  have HBW := Lib.hid hbw
  have hgW : gr < W.heap.size := hZ.lt
  clear hW hB hX hbw hY
  go_enter Tryd.func18, Tryd.ntmps18
  go_upto_region 1 with fail
  first | rw [← HW.out, hgr] | rw [← HW.out]
  go_wp2_with fail
  refine HC.out.mono ?_
  rintro e w1 ⟨hrv, hb1⟩
  clear HC
  have hr1 := hZ.below hb1 hgW
  have hs1 := hb1.size
  cases Y with
  | none =>
    have HE : Hid (X = (zeroK, 0, 11)) := Lib.hid (by rw [← HX.out]; exact readX_no false fun v t h => by rw [HY.out] at h; cases h)
    obtain ⟨z, Az, nz', cz', he⟩ := hrv
    obtain ⟨kz, nz, sz, Anz, nsz, cnz, Aiz, isz, ciz⟩ := z
    have he' : e = .returned (.tuple #[.agg #[.int .i64 kz, .int .i64 nz, .string sz, .slice Anz nsz.length cnz, .slice Aiz isz.length ciz], .slice Az nz' cz', .bool false]) := he
    clear he
    subst he'
    obtain ⟨w2, hw2⟩ : ∃ w2, w2 = w1.alloc (.cells #[.int .i64 kz, .int .i64 nz, .string sz, .slice Anz nsz.length cnz, .slice Aiz isz.length ciz] 25) := ⟨_, rfl⟩
    have hr2 : Blk w2 gr 25 zeroBlk := by rw [hw2]; exact hr1.alloc _
    have hb02 : Hid (Below w.heap.size w w2) := Lib.hid (by rw [hw2]; exact (HBW.out.trans (hb1.mono HBW.out.size)).alloc (by have := HBW.out.size; omega) _)
    have HW2 := Lib.hid hw2
    clear hw2
    go_upto_region 2 with fail
    rw [← HW2.out]
    clear hgr
    obtain ⟨x0, x1, x2, x3, x4⟩ : w2.cell? ⟨gr, 0, none⟩ = some (.int .i64 0) ∧ w2.cell? ⟨gr, 1, none⟩ = some (.int .i64 0) ∧ w2.cell? ⟨gr, 2, none⟩ = some (.string ⟨#[]⟩) ∧ w2.cell? ⟨gr, 3, none⟩ = some (.slice none 0 0) ∧ w2.cell? ⟨gr, 4, none⟩ = some (.slice none 0 0) := ⟨hr2.cell 0, hr2.cell 1, hr2.cell 2, hr2.cell 3, hr2.cell 4⟩
    obtain ⟨y0, y1, y2, y3, y4⟩ : w2.frozen? ⟨gr, 0, none⟩ = false ∧ w2.frozen? ⟨gr, 1, none⟩ = false ∧ w2.frozen? ⟨gr, 2, none⟩ = false ∧ w2.frozen? ⟨gr, 3, none⟩ = false ∧ w2.frozen? ⟨gr, 4, none⟩ = false := ⟨hr2.free 0, hr2.free 1, hr2.free 2, hr2.free 3, hr2.free 4⟩
    obtain ⟨W9, hW9⟩ : ∃ W9, W9 = (((((w2.setCell ⟨gr, 0, none⟩ (.int .i64 0)).setCell ⟨gr, 1, none⟩ (.int .i64 0)).setCell ⟨gr, 2, none⟩ (.string ⟨#[]⟩)).setCell ⟨gr, 3, none⟩ (.slice none 0 0)).setCell ⟨gr, 4, none⟩ (.slice none 0 0)) := ⟨_, rfl⟩
    have hC9 : Chg w2 W9 (fun k => k = gr) := by rw [hW9]; exact chg_five w2 gr (.int .i64 0) (.int .i64 0) (.string ⟨#[]⟩) (.slice none 0 0) (.slice none 0 0)
    have hZ9 : Blk W9 gr 25 #[.int .i64 0, .int .i64 0, .string ⟨#[]⟩, .slice none 0 0, .slice none 0 0] := by rw [hW9]; exact hr2.five (.int .i64 0) (.int .i64 0) (.string ⟨#[]⟩) (.slice none 0 0) (.slice none 0 0)
    obtain ⟨j0, j1, j2, j3, j4⟩ : W9.cell? ⟨gr, 0, none⟩ = some (.int .i64 0) ∧ W9.cell? ⟨gr, 1, none⟩ = some (.int .i64 0) ∧ W9.cell? ⟨gr, 2, none⟩ = some (.string ⟨#[]⟩) ∧ W9.cell? ⟨gr, 3, none⟩ = some (.slice none 0 0) ∧ W9.cell? ⟨gr, 4, none⟩ = some (.slice none 0 0) := ⟨hZ9.cell 0, hZ9.cell 1, hZ9.cell 2, hZ9.cell 3, hZ9.cell 4⟩
    have HC9 := Lib.hid hC9
    have HW9 := Lib.hid hW9
    clear hW9 hC9
    have HBF : Hid (Below w.heap.size w W9) := Lib.hid (hb02.out.trans (HC9.out.below hb02.out.size fun i hi => by have := HGR.out; omega))
    go_wp2
    rw [← HW9.out]
    exact bodyPost_ret (v := .tuple #[.agg #[.int .i64 0, .int .i64 0, .string ⟨#[]⟩, .slice none 0 0, .slice none 0 0], .int .i64 0, .int .i64 11]) (by simp [results, Tryd.results18, go_sem, j0, j1, j2, j3, j4]) rfl ⟨⟨zeroV, by rw [HE.out]; rfl, zero_at _, by rw [HE.out]; rfl⟩, (by first | exact HBF.out | (rw [← HGR.out]; exact HBF.out))⟩
  | some q =>
    obtain ⟨jq, tq⟩ := q
    obtain ⟨z, Az, cz', he, hz1, hzo1, hzj, hBz⟩ := hrv
    obtain ⟨kz, nz, sz, Anz, nsz, cnz, Aiz, isz, ciz⟩ := z
    have he' : e = .returned (.tuple #[.agg #[.int .i64 kz, .int .i64 nz, .string sz, .slice Anz nsz.length cnz, .slice Aiz isz.length ciz], .slice Az tq.length cz', .bool true]) := he
    clear he
    subst he'
    have HZJ := Lib.hid hzj
    have htl := valG_len _ _ _ _ HY.out
    have HZO : Hid ((LV.mk kz nz sz Anz nsz cnz Aiz isz ciz).On (fun k => k ≠ gr)) := Lib.hid (LV.On.mono (fun k hk => by omega) _ hzo1)
    clear hzj
    obtain ⟨gz, hgz⟩ : ∃ g, w1.heap.size = g := ⟨_, rfl⟩
    obtain ⟨w2, hw2⟩ : ∃ w2, w2 = w1.alloc (.cells #[.int .i64 kz, .int .i64 nz, .string sz, .slice Anz nsz.length cnz, .slice Aiz isz.length ciz] 25) := ⟨_, rfl⟩
    have hZ2 : Blk w2 gz 25 #[.int .i64 kz, .int .i64 nz, .string sz, .slice Anz nsz.length cnz, .slice Aiz isz.length ciz] := by rw [hw2, ← hgz]; exact Blk.new w1 _ _
    have hb12 : Below w1.heap.size w1 w2 := by rw [hw2]; exact (Below.refl _ _).alloc (Nat.le_refl _) _
    have hz2 := LV.At.below hb12 _ hz1
    have hr2 : Blk w2 gr 25 zeroBlk := by rw [hw2]; exact hr1.alloc _
    have hb2 : Hid (Below w.heap.size w w2) := Lib.hid (by rw [hw2]; exact (HBW.out.trans (hb1.mono HBW.out.size)).alloc (by have := HBW.out.size; omega) _)
    have HFO := Lib.hid (rformed_any (LV.mk kz nz sz Anz nsz cnz Aiz isz ciz) w2 hz2)
    have HW2 := Lib.hid hw2
    have hgg : gr < gz := by omega
    clear hw2 hz1 hb12
    go_upto_region 2 with fail
    first | rw [← HW2.out, hgz] | rw [← HW2.out]
    clear hgz hgr
    obtain ⟨d0, d1, d2, d3, d4⟩ : w2.cell? ⟨gz, 0, none⟩ = some (.int .i64 kz) ∧ w2.cell? ⟨gz, 1, none⟩ = some (.int .i64 nz) ∧ w2.cell? ⟨gz, 2, none⟩ = some (.string sz) ∧ w2.cell? ⟨gz, 3, none⟩ = some (.slice Anz nsz.length cnz) ∧ w2.cell? ⟨gz, 4, none⟩ = some (.slice Aiz isz.length ciz) := ⟨hZ2.cell 0, hZ2.cell 1, hZ2.cell 2, hZ2.cell 3, hZ2.cell 4⟩
    go_wp2_with fail
    refine HFO.out.mono ?_
    rintro e w3 ⟨⟨F, rfl, hF⟩, hb3⟩
    clear d0 d1 d2 d3 d4
    have hr3 := hr2.below hb3 hr2.lt
    have hZ3 := hZ2.below hb3 hZ2.lt
    have hz3 := LV.At.below hb3 _ hz2
    have hb02 : Hid (Below w.heap.size w w3) := Lib.hid (hb2.out.trans (hb3.mono hb2.out.size))
    have HF := Lib.hid hF
    clear hF
    cases F with
    | false =>
      have hno : ∀ v t, valG false 6 b = some (v, t) → ¬ FormedP v 6 := fun v t h hf => by
        rw [HY.out] at h
        injection h with h
        injection h with e1 e2
        rw [← e1, ← HZJ.out] at hf
        have := HF.out.2 hf
        cases this
      have HE : Hid (X = (zeroK, 0, 11)) := Lib.hid (by rw [← HX.out]; exact readX_no false hno)
      clear hno
      obtain ⟨x0, x1, x2, x3, x4⟩ : w3.cell? ⟨gr, 0, none⟩ = some (.int .i64 0) ∧ w3.cell? ⟨gr, 1, none⟩ = some (.int .i64 0) ∧ w3.cell? ⟨gr, 2, none⟩ = some (.string ⟨#[]⟩) ∧ w3.cell? ⟨gr, 3, none⟩ = some (.slice none 0 0) ∧ w3.cell? ⟨gr, 4, none⟩ = some (.slice none 0 0) := ⟨hr3.cell 0, hr3.cell 1, hr3.cell 2, hr3.cell 3, hr3.cell 4⟩
      obtain ⟨y0, y1, y2, y3, y4⟩ : w3.frozen? ⟨gr, 0, none⟩ = false ∧ w3.frozen? ⟨gr, 1, none⟩ = false ∧ w3.frozen? ⟨gr, 2, none⟩ = false ∧ w3.frozen? ⟨gr, 3, none⟩ = false ∧ w3.frozen? ⟨gr, 4, none⟩ = false := ⟨hr3.free 0, hr3.free 1, hr3.free 2, hr3.free 3, hr3.free 4⟩
      obtain ⟨W9, hW9⟩ : ∃ W9, W9 = (((((w3.setCell ⟨gr, 0, none⟩ (.int .i64 0)).setCell ⟨gr, 1, none⟩ (.int .i64 0)).setCell ⟨gr, 2, none⟩ (.string ⟨#[]⟩)).setCell ⟨gr, 3, none⟩ (.slice none 0 0)).setCell ⟨gr, 4, none⟩ (.slice none 0 0)) := ⟨_, rfl⟩
      have hC9 : Chg w3 W9 (fun k => k = gr) := by rw [hW9]; exact chg_five w3 gr (.int .i64 0) (.int .i64 0) (.string ⟨#[]⟩) (.slice none 0 0) (.slice none 0 0)
      have hZ9 : Blk W9 gr 25 #[.int .i64 0, .int .i64 0, .string ⟨#[]⟩, .slice none 0 0, .slice none 0 0] := by rw [hW9]; exact hr3.five (.int .i64 0) (.int .i64 0) (.string ⟨#[]⟩) (.slice none 0 0) (.slice none 0 0)
      obtain ⟨j0, j1, j2, j3, j4⟩ : W9.cell? ⟨gr, 0, none⟩ = some (.int .i64 0) ∧ W9.cell? ⟨gr, 1, none⟩ = some (.int .i64 0) ∧ W9.cell? ⟨gr, 2, none⟩ = some (.string ⟨#[]⟩) ∧ W9.cell? ⟨gr, 3, none⟩ = some (.slice none 0 0) ∧ W9.cell? ⟨gr, 4, none⟩ = some (.slice none 0 0) := ⟨hZ9.cell 0, hZ9.cell 1, hZ9.cell 2, hZ9.cell 3, hZ9.cell 4⟩
      have HC9 := Lib.hid hC9
      have HW9 := Lib.hid hW9
      clear hW9 hC9
      have HBF : Hid (Below w.heap.size w W9) := Lib.hid (hb02.out.trans (HC9.out.below hb02.out.size fun i hi => by have := HGR.out; omega))
      go_wp2
      rw [← HW9.out]
      exact bodyPost_ret (v := .tuple #[.agg #[.int .i64 0, .int .i64 0, .string ⟨#[]⟩, .slice none 0 0, .slice none 0 0], .int .i64 0, .int .i64 11]) (by simp [results, Tryd.results18, go_sem, j0, j1, j2, j3, j4]) rfl ⟨⟨zeroV, by rw [HE.out]; rfl, zero_at _, by rw [HE.out]; rfl⟩, (by first | exact HBF.out | (rw [← HGR.out]; exact HBF.out))⟩
    | true =>
      have HE : Hid (X = ((LV.mk kz nz sz Anz nsz cnz Aiz isz ciz).j, b.length - tq.length, 0)) := Lib.hid (by rw [← HX.out, HZJ.out]; exact readX_of false HY.out (by rw [← HZJ.out]; exact HF.out.1 rfl))
      have hwn : IntKind.i64.wrap ((b.length : Int) - (tq.length : Int)) = ((b.length - tq.length : Nat) : Int) := by rw [IntKind.wrap_i64]; omega
      obtain ⟨nn, hnn⟩ : ∃ nn, b.length - tq.length = nn := ⟨_, rfl⟩
      rw [hnn] at hwn HE
      have HNN := Lib.hid hnn
      clear hnn
      obtain ⟨d0, d1, d2, d3, d4⟩ : w3.cell? ⟨gz, 0, none⟩ = some (.int .i64 kz) ∧ w3.cell? ⟨gz, 1, none⟩ = some (.int .i64 nz) ∧ w3.cell? ⟨gz, 2, none⟩ = some (.string sz) ∧ w3.cell? ⟨gz, 3, none⟩ = some (.slice Anz nsz.length cnz) ∧ w3.cell? ⟨gz, 4, none⟩ = some (.slice Aiz isz.length ciz) := ⟨hZ3.cell 0, hZ3.cell 1, hZ3.cell 2, hZ3.cell 3, hZ3.cell 4⟩
      obtain ⟨x0, x1, x2, x3, x4⟩ : w3.cell? ⟨gr, 0, none⟩ = some (.int .i64 0) ∧ w3.cell? ⟨gr, 1, none⟩ = some (.int .i64 0) ∧ w3.cell? ⟨gr, 2, none⟩ = some (.string ⟨#[]⟩) ∧ w3.cell? ⟨gr, 3, none⟩ = some (.slice none 0 0) ∧ w3.cell? ⟨gr, 4, none⟩ = some (.slice none 0 0) := ⟨hr3.cell 0, hr3.cell 1, hr3.cell 2, hr3.cell 3, hr3.cell 4⟩
      obtain ⟨y0, y1, y2, y3, y4⟩ : w3.frozen? ⟨gr, 0, none⟩ = false ∧ w3.frozen? ⟨gr, 1, none⟩ = false ∧ w3.frozen? ⟨gr, 2, none⟩ = false ∧ w3.frozen? ⟨gr, 3, none⟩ = false ∧ w3.frozen? ⟨gr, 4, none⟩ = false := ⟨hr3.free 0, hr3.free 1, hr3.free 2, hr3.free 3, hr3.free 4⟩
      obtain ⟨W9, hW9⟩ : ∃ W9, W9 = (((((w3.setCell ⟨gr, 0, none⟩ (.int .i64 kz)).setCell ⟨gr, 1, none⟩ (.int .i64 nz)).setCell ⟨gr, 2, none⟩ (.string sz)).setCell ⟨gr, 3, none⟩ (.slice Anz nsz.length cnz)).setCell ⟨gr, 4, none⟩ (.slice Aiz isz.length ciz)) := ⟨_, rfl⟩
      have hC9 : Chg w3 W9 (fun k => k = gr) := by rw [hW9]; exact chg_five w3 gr (.int .i64 kz) (.int .i64 nz) (.string sz) (.slice Anz nsz.length cnz) (.slice Aiz isz.length ciz)
      have hZ9 : Blk W9 gr 25 #[.int .i64 kz, .int .i64 nz, .string sz, .slice Anz nsz.length cnz, .slice Aiz isz.length ciz] := by rw [hW9]; exact hr3.five (.int .i64 kz) (.int .i64 nz) (.string sz) (.slice Anz nsz.length cnz) (.slice Aiz isz.length ciz)
      obtain ⟨j0, j1, j2, j3, j4⟩ : W9.cell? ⟨gr, 0, none⟩ = some (.int .i64 kz) ∧ W9.cell? ⟨gr, 1, none⟩ = some (.int .i64 nz) ∧ W9.cell? ⟨gr, 2, none⟩ = some (.string sz) ∧ W9.cell? ⟨gr, 3, none⟩ = some (.slice Anz nsz.length cnz) ∧ W9.cell? ⟨gr, 4, none⟩ = some (.slice Aiz isz.length ciz) := ⟨hZ9.cell 0, hZ9.cell 1, hZ9.cell 2, hZ9.cell 3, hZ9.cell 4⟩
      have HC9 := Lib.hid hC9
      have HW9 := Lib.hid hW9
      clear hW9 hC9
      have hz9 : Hid ((LV.mk kz nz sz Anz nsz cnz Aiz isz ciz).At W9) := Lib.hid (LV.At.move (S := fun k => k ≠ gr) (fun k hk hl => HC9.out.block k hl hk) HC9.out.size _ hz3 HZO.out)
      have HBF : Hid (Below w.heap.size w W9) := Lib.hid (hb02.out.trans (HC9.out.below hb02.out.size fun i hi => by have := HGR.out; omega))
      go_wp2
      rw [← HW9.out]
      exact bodyPost_ret (v := .tuple #[.agg #[.int .i64 kz, .int .i64 nz, .string sz, .slice Anz nsz.length cnz, .slice Aiz isz.length ciz], .int .i64 (nn : Nat), .int .i64 0]) (by simp [results, Tryd.results18, go_sem, j0, j1, j2, j3, j4]) rfl ⟨⟨(LV.mk kz nz sz Anz nsz cnz Aiz isz ciz), by rw [HE.out]; rfl, hz9.out, by rw [HE.out]⟩, (by first | exact HBF.out | (rw [← HGR.out]; exact HBF.out))⟩
end Go.Proofs.YtpnbmgfnnmmokaaDoor
