/-
  The contract of munimentref04.value.
-/
import Derived.Test.YtpnbmgfnnmmokaaDoorQy
set_option linter.unusedVariables false
namespace Go.Proofs.YtpnbmgfnnmmokaaDoor
open Go.RowKit

theorem sub_top (m : Int) (h0 : 0 ≤ m) (h1 : m ≤ 18446744073709551615) : IntKind.i64.wrap (IntKind.u64.wrap (m - 9223372036854775808)) = m - 9223372036854775808 := by
  rw [IntKind.wrap_u64, IntKind.wrap_i64]; omega
theorem BRow.cut {w : World} {bb off c : Nat} {x : Int} {r : List Int} (h : BRow w (some ⟨bb, off, Option.none⟩) c (x :: r)) : BRow w (some ⟨bb, off + 1, Option.none⟩) (c - 1) r := h.sub 1 (by rw [List.length_cons]; omega)
def strJ : Option (List Int × List Int) → Option (JV × List Int)
  | none => none
  | some (s, t) => some (.mk 4 0 (strOfNums s) [] [], t)
theorem valG_strJ {l : Nat} {r : List Int} : valG false (l + 1) (5 :: r) = strJ (getB r) := by
  rw [valG_str, getG_false]; cases getB r <;> rfl
set_option maxHeartbeats 4000000 in
theorem rv_leaf1 (wh : World) (l : Nat) (A : Option Addr) (c : Nat) (r : List Int) (w : World) (hB : BRow wh A c (1 :: r)) (h0 : Below wh.heap.size wh w) (hl : r.length + 1 ≤ 10000000000000) (hl6 : l ≤ 100) :
    Calls Tryd.prog 30 #[.slice A (r.length + 1) c, .int .i64 ((l : Int) + 1)] w fun e w' => RvIs wh w (valG false (l + 1) (1 :: r)) e w' ∧ Below w.heap.size w w' := by
  obtain ⟨X, hX⟩ : ∃ X, valG false (l + 1) (1 :: r) = X := ⟨_, rfl⟩
  rw [hX]
  have HXX := Lib.hid hX
  obtain ⟨bb, off, rfl, hbb, hcell0⟩ := hB.cells.u8 (l := 1 :: r) (k := 0) (by simp)
  have hcc := hB.len
  have hcm := hB.cap
  have hcut := hB.cut
  simp only [List.length_cons] at hcc
  obtain ⟨n, hn⟩ : ∃ n, r.length + 1 = n := ⟨_, rfl⟩
  rw [hn] at hcc hl ⊢
  have HRN := Lib.hid hn
  have hn0 : (0 : Int) < (n : Int) := by omega
  have hn1 : (1 : Int) ≤ (n : Int) := by omega
  have hnz : ((n : Int) == 0) = false := by rw [beq_eq_false_iff_ne]; omega
  have hlz : ((l : Int) + 1 == 0) = false := by rw [beq_eq_false_iff_ne]; omega
  have hng : 1 ≤ n := by omega
  clear hn hX
  obtain ⟨W, hW⟩ : ∃ W, W = w.alloc (.cells zeroBlk 25) := ⟨_, rfl⟩
  obtain ⟨gr, hgr⟩ : ∃ g, w.heap.size = g := ⟨_, rfl⟩
  obtain ⟨go, hgo⟩ : ∃ g, gr + 1 = g := ⟨_, rfl⟩
  have hWs : W.heap.size = go := by rw [hW, World.size_alloc]; omega
  obtain ⟨W2, hW2⟩ : ∃ W2, W2 = W.alloc (.cells #[.int .i64 (0), .int .i64 0, .string ⟨#[]⟩, .slice none 0 0, .slice none 0 0] 25) := ⟨_, rfl⟩
  have hM2 : MvS w W2 gr go (gr + 2) (0) 0 ⟨#[]⟩ (.slice none 0 0) (.slice none 0 0) [] [] := MvS.fresh (by rw [hW2, hW, ← hgr]; exact (Blk.new w _ _).alloc _) (by rw [hW2, ← hWs]; exact Blk.new W _ _) (by rw [hW2, World.size_alloc]; omega) (by omega) (by omega) (by omega) (by omega) (by omega) (by rw [hW2, hW]; exact ((Below.refl _ _).alloc (Nat.le_refl _) _).alloc (by simp) _)
  have hbhW : Below wh.heap.size wh W := h0.trans (by rw [hW]; exact (Below.refl _ _).alloc h0.size _)
  have e0 : W.cell? ⟨bb, off, none⟩ = some (.int .u8 1) := (hbhW.cell (p := ⟨bb, off, none⟩) hbb).trans (by simpa using hcell0)
  have HW := Lib.hid hW
  have HW2 := Lib.hid hW2
  have HGR := Lib.hid hgr
  have HGO := Lib.hid hgo
  have HWS := Lib.hid hWs
  clear hW hW2 hcell0 hB hbhW
  go_enter Tryd.func30, Tryd.ntmps30
  go_upto_region 1 with fail
  first | rw [← HW.out, hgr] | rw [← HW.out]
  go_upto_region 4 with fail
  first | rw [← HW2.out, hWs] | rw [← HW2.out]
  clear hgr hgo hWs e0
  have d0 : W2.cell? ⟨go, 0, none⟩ = some (.int .i64 (0)) := hM2.v.cell 0
  have hbh : Below wh.heap.size wh W2 := h0.trans (hM2.b.mono h0.size)
  by_cases hc1 : c = 1
  · have hn1' : n = 1 := by omega
    have hr0 : r = [] := List.eq_nil_of_length_eq_zero (by have := HRN.out; omega)
    subst hc1 hn1' hr0
    have hbr : BRow wh (some ⟨bb, off, none⟩) 0 [] := BRow.none
    go_upto_region 5 with fail
    have HE : Hid (X = some (.mk (0) 0 ⟨#[]⟩ [] [], [])) := Lib.hid (by rw [← HXX.out]; exact valG_leaf (by omega))
    obtain ⟨e0, e1, e2, e3, e4⟩ : W2.cell? ⟨go, 0, none⟩ = some (.int .i64 (0)) ∧ W2.cell? ⟨go, 1, none⟩ = some (.int .i64 (0)) ∧ W2.cell? ⟨go, 2, none⟩ = some (.string ⟨#[]⟩) ∧ W2.cell? ⟨go, 3, none⟩ = some (.slice none 0 0) ∧ W2.cell? ⟨go, 4, none⟩ = some (.slice none 0 0) := ⟨hM2.v.cell 0, hM2.v.cell 1, hM2.v.cell 2, hM2.v.cell 3, hM2.v.cell 4⟩
    obtain ⟨x0, x1, x2, x3, x4⟩ : W2.cell? ⟨gr, 0, none⟩ = some (.int .i64 0) ∧ W2.cell? ⟨gr, 1, none⟩ = some (.int .i64 0) ∧ W2.cell? ⟨gr, 2, none⟩ = some (.string ⟨#[]⟩) ∧ W2.cell? ⟨gr, 3, none⟩ = some (.slice none 0 0) ∧ W2.cell? ⟨gr, 4, none⟩ = some (.slice none 0 0) := ⟨hM2.res.cell 0, hM2.res.cell 1, hM2.res.cell 2, hM2.res.cell 3, hM2.res.cell 4⟩
    obtain ⟨y0, y1, y2, y3, y4⟩ : W2.frozen? ⟨gr, 0, none⟩ = false ∧ W2.frozen? ⟨gr, 1, none⟩ = false ∧ W2.frozen? ⟨gr, 2, none⟩ = false ∧ W2.frozen? ⟨gr, 3, none⟩ = false ∧ W2.frozen? ⟨gr, 4, none⟩ = false := ⟨hM2.res.free 0, hM2.res.free 1, hM2.res.free 2, hM2.res.free 3, hM2.res.free 4⟩
    obtain ⟨W9, hW9⟩ : ∃ W9, W9 = (((((W2.setCell ⟨gr, 0, none⟩ (.int .i64 (0))).setCell ⟨gr, 1, none⟩ (.int .i64 (0))).setCell ⟨gr, 2, none⟩ (.string ⟨#[]⟩)).setCell ⟨gr, 3, none⟩ (.slice none 0 0)).setCell ⟨gr, 4, none⟩ (.slice none 0 0)) := ⟨_, rfl⟩
    have hC9 : Chg W2 W9 (fun k => k = gr) := by rw [hW9]; exact chg_five W2 gr (.int .i64 (0)) (.int .i64 (0)) (.string ⟨#[]⟩) (.slice none 0 0) (.slice none 0 0)
    have hZ9 : Blk W9 gr 25 #[.int .i64 (0), .int .i64 (0), .string ⟨#[]⟩, .slice none 0 0, .slice none 0 0] := by rw [hW9]; exact hM2.res.five (.int .i64 (0)) (.int .i64 (0)) (.string ⟨#[]⟩) (.slice none 0 0) (.slice none 0 0)
    obtain ⟨j0, j1, j2, j3, j4⟩ : W9.cell? ⟨gr, 0, none⟩ = some (.int .i64 (0)) ∧ W9.cell? ⟨gr, 1, none⟩ = some (.int .i64 (0)) ∧ W9.cell? ⟨gr, 2, none⟩ = some (.string ⟨#[]⟩) ∧ W9.cell? ⟨gr, 3, none⟩ = some (.slice none 0 0) ∧ W9.cell? ⟨gr, 4, none⟩ = some (.slice none 0 0) := ⟨hZ9.cell 0, hZ9.cell 1, hZ9.cell 2, hZ9.cell 3, hZ9.cell 4⟩
    have hD := MvS.done (k := (0)) (n := (0)) (s := ⟨#[]⟩) (An := none) (ns := []) (cn := 0) (Ai := none) (is := []) (ci := 0) hM2 hC9 (by omega) (by omega) (by decide) (by simp)
    have HD := Lib.hid hD
    have HW9 := Lib.hid hW9
    clear hW9 hD
    go_wp2
    rw [← HW9.out]
    exact bodyPost_ret (v := .tuple #[.agg #[.int .i64 (0), .int .i64 (0), .string ⟨#[]⟩, .slice none 0 0, .slice none 0 0], .slice (some ⟨bb, off, none⟩) 0 0, .bool true]) (by simp [results, Tryd.results30, go_sem, j0, j1, j2, j3, j4]) rfl ⟨by rw [HE.out]; exact ⟨LV.mk (0) (0) ⟨#[]⟩ none [] 0 none [] 0, (some ⟨bb, off, none⟩), 0, rfl, HD.out.1, HD.out.2.1, leaf_j _ _ _, hbr⟩, HD.out.2.2⟩
  have hbr := hcut
  have hrn : r.length = n - 1 := by have := HRN.out; omega
  have HRL := Lib.hid hrn
  clear hrn
  go_upto_region 5 with fail
  have HE : Hid (X = some (.mk (0) 0 ⟨#[]⟩ [] [], r)) := Lib.hid (by rw [← HXX.out]; exact valG_leaf (by omega))
  obtain ⟨e0, e1, e2, e3, e4⟩ : W2.cell? ⟨go, 0, none⟩ = some (.int .i64 (0)) ∧ W2.cell? ⟨go, 1, none⟩ = some (.int .i64 (0)) ∧ W2.cell? ⟨go, 2, none⟩ = some (.string ⟨#[]⟩) ∧ W2.cell? ⟨go, 3, none⟩ = some (.slice none 0 0) ∧ W2.cell? ⟨go, 4, none⟩ = some (.slice none 0 0) := ⟨hM2.v.cell 0, hM2.v.cell 1, hM2.v.cell 2, hM2.v.cell 3, hM2.v.cell 4⟩
  obtain ⟨x0, x1, x2, x3, x4⟩ : W2.cell? ⟨gr, 0, none⟩ = some (.int .i64 0) ∧ W2.cell? ⟨gr, 1, none⟩ = some (.int .i64 0) ∧ W2.cell? ⟨gr, 2, none⟩ = some (.string ⟨#[]⟩) ∧ W2.cell? ⟨gr, 3, none⟩ = some (.slice none 0 0) ∧ W2.cell? ⟨gr, 4, none⟩ = some (.slice none 0 0) := ⟨hM2.res.cell 0, hM2.res.cell 1, hM2.res.cell 2, hM2.res.cell 3, hM2.res.cell 4⟩
  obtain ⟨y0, y1, y2, y3, y4⟩ : W2.frozen? ⟨gr, 0, none⟩ = false ∧ W2.frozen? ⟨gr, 1, none⟩ = false ∧ W2.frozen? ⟨gr, 2, none⟩ = false ∧ W2.frozen? ⟨gr, 3, none⟩ = false ∧ W2.frozen? ⟨gr, 4, none⟩ = false := ⟨hM2.res.free 0, hM2.res.free 1, hM2.res.free 2, hM2.res.free 3, hM2.res.free 4⟩
  obtain ⟨W9, hW9⟩ : ∃ W9, W9 = (((((W2.setCell ⟨gr, 0, none⟩ (.int .i64 (0))).setCell ⟨gr, 1, none⟩ (.int .i64 (0))).setCell ⟨gr, 2, none⟩ (.string ⟨#[]⟩)).setCell ⟨gr, 3, none⟩ (.slice none 0 0)).setCell ⟨gr, 4, none⟩ (.slice none 0 0)) := ⟨_, rfl⟩
  have hC9 : Chg W2 W9 (fun k => k = gr) := by rw [hW9]; exact chg_five W2 gr (.int .i64 (0)) (.int .i64 (0)) (.string ⟨#[]⟩) (.slice none 0 0) (.slice none 0 0)
  have hZ9 : Blk W9 gr 25 #[.int .i64 (0), .int .i64 (0), .string ⟨#[]⟩, .slice none 0 0, .slice none 0 0] := by rw [hW9]; exact hM2.res.five (.int .i64 (0)) (.int .i64 (0)) (.string ⟨#[]⟩) (.slice none 0 0) (.slice none 0 0)
  obtain ⟨j0, j1, j2, j3, j4⟩ : W9.cell? ⟨gr, 0, none⟩ = some (.int .i64 (0)) ∧ W9.cell? ⟨gr, 1, none⟩ = some (.int .i64 (0)) ∧ W9.cell? ⟨gr, 2, none⟩ = some (.string ⟨#[]⟩) ∧ W9.cell? ⟨gr, 3, none⟩ = some (.slice none 0 0) ∧ W9.cell? ⟨gr, 4, none⟩ = some (.slice none 0 0) := ⟨hZ9.cell 0, hZ9.cell 1, hZ9.cell 2, hZ9.cell 3, hZ9.cell 4⟩
  have hD := MvS.done (k := (0)) (n := (0)) (s := ⟨#[]⟩) (An := none) (ns := []) (cn := 0) (Ai := none) (is := []) (ci := 0) hM2 hC9 (by omega) (by omega) (by decide) (by simp)
  have HD := Lib.hid hD
  have HW9 := Lib.hid hW9
  clear hW9 hD
  go_wp2
  rw [← HW9.out]
  exact bodyPost_ret (v := .tuple #[.agg #[.int .i64 (0), .int .i64 (0), .string ⟨#[]⟩, .slice none 0 0, .slice none 0 0], .slice (some ⟨bb, off + 1, none⟩) (n - 1) (c - 1), .bool true]) (by simp [results, Tryd.results30, go_sem, j0, j1, j2, j3, j4]) rfl ⟨by rw [HE.out]; exact ⟨LV.mk (0) (0) ⟨#[]⟩ none [] 0 none [] 0, (some ⟨bb, off + 1, none⟩), (c - 1), by rw [HRL.out]; rfl, HD.out.1, HD.out.2.1, leaf_j _ _ _, hbr⟩, HD.out.2.2⟩
set_option maxHeartbeats 4000000 in
theorem rv_leaf2 (wh : World) (l : Nat) (A : Option Addr) (c : Nat) (r : List Int) (w : World) (hB : BRow wh A c (2 :: r)) (h0 : Below wh.heap.size wh w) (hl : r.length + 1 ≤ 10000000000000) (hl6 : l ≤ 100) :
    Calls Tryd.prog 30 #[.slice A (r.length + 1) c, .int .i64 ((l : Int) + 1)] w fun e w' => RvIs wh w (valG false (l + 1) (2 :: r)) e w' ∧ Below w.heap.size w w' := by
  obtain ⟨X, hX⟩ : ∃ X, valG false (l + 1) (2 :: r) = X := ⟨_, rfl⟩
  rw [hX]
  have HXX := Lib.hid hX
  obtain ⟨bb, off, rfl, hbb, hcell0⟩ := hB.cells.u8 (l := 2 :: r) (k := 0) (by simp)
  have hcc := hB.len
  have hcm := hB.cap
  have hcut := hB.cut
  simp only [List.length_cons] at hcc
  obtain ⟨n, hn⟩ : ∃ n, r.length + 1 = n := ⟨_, rfl⟩
  rw [hn] at hcc hl ⊢
  have HRN := Lib.hid hn
  have hn0 : (0 : Int) < (n : Int) := by omega
  have hn1 : (1 : Int) ≤ (n : Int) := by omega
  have hnz : ((n : Int) == 0) = false := by rw [beq_eq_false_iff_ne]; omega
  have hlz : ((l : Int) + 1 == 0) = false := by rw [beq_eq_false_iff_ne]; omega
  have hng : 1 ≤ n := by omega
  clear hn hX
  obtain ⟨W, hW⟩ : ∃ W, W = w.alloc (.cells zeroBlk 25) := ⟨_, rfl⟩
  obtain ⟨gr, hgr⟩ : ∃ g, w.heap.size = g := ⟨_, rfl⟩
  obtain ⟨go, hgo⟩ : ∃ g, gr + 1 = g := ⟨_, rfl⟩
  have hWs : W.heap.size = go := by rw [hW, World.size_alloc]; omega
  obtain ⟨W2, hW2⟩ : ∃ W2, W2 = W.alloc (.cells #[.int .i64 (1), .int .i64 0, .string ⟨#[]⟩, .slice none 0 0, .slice none 0 0] 25) := ⟨_, rfl⟩
  have hM2 : MvS w W2 gr go (gr + 2) (1) 0 ⟨#[]⟩ (.slice none 0 0) (.slice none 0 0) [] [] := MvS.fresh (by rw [hW2, hW, ← hgr]; exact (Blk.new w _ _).alloc _) (by rw [hW2, ← hWs]; exact Blk.new W _ _) (by rw [hW2, World.size_alloc]; omega) (by omega) (by omega) (by omega) (by omega) (by omega) (by rw [hW2, hW]; exact ((Below.refl _ _).alloc (Nat.le_refl _) _).alloc (by simp) _)
  have hbhW : Below wh.heap.size wh W := h0.trans (by rw [hW]; exact (Below.refl _ _).alloc h0.size _)
  have e0 : W.cell? ⟨bb, off, none⟩ = some (.int .u8 2) := (hbhW.cell (p := ⟨bb, off, none⟩) hbb).trans (by simpa using hcell0)
  have HW := Lib.hid hW
  have HW2 := Lib.hid hW2
  have HGR := Lib.hid hgr
  have HGO := Lib.hid hgo
  have HWS := Lib.hid hWs
  clear hW hW2 hcell0 hB hbhW
  go_enter Tryd.func30, Tryd.ntmps30
  go_upto_region 1 with fail
  first | rw [← HW.out, hgr] | rw [← HW.out]
  go_upto_region 4 with fail
  first | rw [← HW2.out, hWs] | rw [← HW2.out]
  clear hgr hgo hWs e0
  have d0 : W2.cell? ⟨go, 0, none⟩ = some (.int .i64 (1)) := hM2.v.cell 0
  have hbh : Below wh.heap.size wh W2 := h0.trans (hM2.b.mono h0.size)
  by_cases hc1 : c = 1
  · have hn1' : n = 1 := by omega
    have hr0 : r = [] := List.eq_nil_of_length_eq_zero (by have := HRN.out; omega)
    subst hc1 hn1' hr0
    have hbr : BRow wh (some ⟨bb, off, none⟩) 0 [] := BRow.none
    go_upto_region 5 with fail
    have HE : Hid (X = some (.mk (1) 0 ⟨#[]⟩ [] [], [])) := Lib.hid (by rw [← HXX.out]; exact valG_leaf (by omega))
    obtain ⟨e0, e1, e2, e3, e4⟩ : W2.cell? ⟨go, 0, none⟩ = some (.int .i64 (1)) ∧ W2.cell? ⟨go, 1, none⟩ = some (.int .i64 (0)) ∧ W2.cell? ⟨go, 2, none⟩ = some (.string ⟨#[]⟩) ∧ W2.cell? ⟨go, 3, none⟩ = some (.slice none 0 0) ∧ W2.cell? ⟨go, 4, none⟩ = some (.slice none 0 0) := ⟨hM2.v.cell 0, hM2.v.cell 1, hM2.v.cell 2, hM2.v.cell 3, hM2.v.cell 4⟩
    obtain ⟨x0, x1, x2, x3, x4⟩ : W2.cell? ⟨gr, 0, none⟩ = some (.int .i64 0) ∧ W2.cell? ⟨gr, 1, none⟩ = some (.int .i64 0) ∧ W2.cell? ⟨gr, 2, none⟩ = some (.string ⟨#[]⟩) ∧ W2.cell? ⟨gr, 3, none⟩ = some (.slice none 0 0) ∧ W2.cell? ⟨gr, 4, none⟩ = some (.slice none 0 0) := ⟨hM2.res.cell 0, hM2.res.cell 1, hM2.res.cell 2, hM2.res.cell 3, hM2.res.cell 4⟩
    obtain ⟨y0, y1, y2, y3, y4⟩ : W2.frozen? ⟨gr, 0, none⟩ = false ∧ W2.frozen? ⟨gr, 1, none⟩ = false ∧ W2.frozen? ⟨gr, 2, none⟩ = false ∧ W2.frozen? ⟨gr, 3, none⟩ = false ∧ W2.frozen? ⟨gr, 4, none⟩ = false := ⟨hM2.res.free 0, hM2.res.free 1, hM2.res.free 2, hM2.res.free 3, hM2.res.free 4⟩
    obtain ⟨W9, hW9⟩ : ∃ W9, W9 = (((((W2.setCell ⟨gr, 0, none⟩ (.int .i64 (1))).setCell ⟨gr, 1, none⟩ (.int .i64 (0))).setCell ⟨gr, 2, none⟩ (.string ⟨#[]⟩)).setCell ⟨gr, 3, none⟩ (.slice none 0 0)).setCell ⟨gr, 4, none⟩ (.slice none 0 0)) := ⟨_, rfl⟩
    have hC9 : Chg W2 W9 (fun k => k = gr) := by rw [hW9]; exact chg_five W2 gr (.int .i64 (1)) (.int .i64 (0)) (.string ⟨#[]⟩) (.slice none 0 0) (.slice none 0 0)
    have hZ9 : Blk W9 gr 25 #[.int .i64 (1), .int .i64 (0), .string ⟨#[]⟩, .slice none 0 0, .slice none 0 0] := by rw [hW9]; exact hM2.res.five (.int .i64 (1)) (.int .i64 (0)) (.string ⟨#[]⟩) (.slice none 0 0) (.slice none 0 0)
    obtain ⟨j0, j1, j2, j3, j4⟩ : W9.cell? ⟨gr, 0, none⟩ = some (.int .i64 (1)) ∧ W9.cell? ⟨gr, 1, none⟩ = some (.int .i64 (0)) ∧ W9.cell? ⟨gr, 2, none⟩ = some (.string ⟨#[]⟩) ∧ W9.cell? ⟨gr, 3, none⟩ = some (.slice none 0 0) ∧ W9.cell? ⟨gr, 4, none⟩ = some (.slice none 0 0) := ⟨hZ9.cell 0, hZ9.cell 1, hZ9.cell 2, hZ9.cell 3, hZ9.cell 4⟩
    have hD := MvS.done (k := (1)) (n := (0)) (s := ⟨#[]⟩) (An := none) (ns := []) (cn := 0) (Ai := none) (is := []) (ci := 0) hM2 hC9 (by omega) (by omega) (by decide) (by simp)
    have HD := Lib.hid hD
    have HW9 := Lib.hid hW9
    clear hW9 hD
    go_wp2
    rw [← HW9.out]
    exact bodyPost_ret (v := .tuple #[.agg #[.int .i64 (1), .int .i64 (0), .string ⟨#[]⟩, .slice none 0 0, .slice none 0 0], .slice (some ⟨bb, off, none⟩) 0 0, .bool true]) (by simp [results, Tryd.results30, go_sem, j0, j1, j2, j3, j4]) rfl ⟨by rw [HE.out]; exact ⟨LV.mk (1) (0) ⟨#[]⟩ none [] 0 none [] 0, (some ⟨bb, off, none⟩), 0, rfl, HD.out.1, HD.out.2.1, leaf_j _ _ _, hbr⟩, HD.out.2.2⟩
  have hbr := hcut
  have hrn : r.length = n - 1 := by have := HRN.out; omega
  have HRL := Lib.hid hrn
  clear hrn
  go_upto_region 5 with fail
  have HE : Hid (X = some (.mk (1) 0 ⟨#[]⟩ [] [], r)) := Lib.hid (by rw [← HXX.out]; exact valG_leaf (by omega))
  obtain ⟨e0, e1, e2, e3, e4⟩ : W2.cell? ⟨go, 0, none⟩ = some (.int .i64 (1)) ∧ W2.cell? ⟨go, 1, none⟩ = some (.int .i64 (0)) ∧ W2.cell? ⟨go, 2, none⟩ = some (.string ⟨#[]⟩) ∧ W2.cell? ⟨go, 3, none⟩ = some (.slice none 0 0) ∧ W2.cell? ⟨go, 4, none⟩ = some (.slice none 0 0) := ⟨hM2.v.cell 0, hM2.v.cell 1, hM2.v.cell 2, hM2.v.cell 3, hM2.v.cell 4⟩
  obtain ⟨x0, x1, x2, x3, x4⟩ : W2.cell? ⟨gr, 0, none⟩ = some (.int .i64 0) ∧ W2.cell? ⟨gr, 1, none⟩ = some (.int .i64 0) ∧ W2.cell? ⟨gr, 2, none⟩ = some (.string ⟨#[]⟩) ∧ W2.cell? ⟨gr, 3, none⟩ = some (.slice none 0 0) ∧ W2.cell? ⟨gr, 4, none⟩ = some (.slice none 0 0) := ⟨hM2.res.cell 0, hM2.res.cell 1, hM2.res.cell 2, hM2.res.cell 3, hM2.res.cell 4⟩
  obtain ⟨y0, y1, y2, y3, y4⟩ : W2.frozen? ⟨gr, 0, none⟩ = false ∧ W2.frozen? ⟨gr, 1, none⟩ = false ∧ W2.frozen? ⟨gr, 2, none⟩ = false ∧ W2.frozen? ⟨gr, 3, none⟩ = false ∧ W2.frozen? ⟨gr, 4, none⟩ = false := ⟨hM2.res.free 0, hM2.res.free 1, hM2.res.free 2, hM2.res.free 3, hM2.res.free 4⟩
  obtain ⟨W9, hW9⟩ : ∃ W9, W9 = (((((W2.setCell ⟨gr, 0, none⟩ (.int .i64 (1))).setCell ⟨gr, 1, none⟩ (.int .i64 (0))).setCell ⟨gr, 2, none⟩ (.string ⟨#[]⟩)).setCell ⟨gr, 3, none⟩ (.slice none 0 0)).setCell ⟨gr, 4, none⟩ (.slice none 0 0)) := ⟨_, rfl⟩
  have hC9 : Chg W2 W9 (fun k => k = gr) := by rw [hW9]; exact chg_five W2 gr (.int .i64 (1)) (.int .i64 (0)) (.string ⟨#[]⟩) (.slice none 0 0) (.slice none 0 0)
  have hZ9 : Blk W9 gr 25 #[.int .i64 (1), .int .i64 (0), .string ⟨#[]⟩, .slice none 0 0, .slice none 0 0] := by rw [hW9]; exact hM2.res.five (.int .i64 (1)) (.int .i64 (0)) (.string ⟨#[]⟩) (.slice none 0 0) (.slice none 0 0)
  obtain ⟨j0, j1, j2, j3, j4⟩ : W9.cell? ⟨gr, 0, none⟩ = some (.int .i64 (1)) ∧ W9.cell? ⟨gr, 1, none⟩ = some (.int .i64 (0)) ∧ W9.cell? ⟨gr, 2, none⟩ = some (.string ⟨#[]⟩) ∧ W9.cell? ⟨gr, 3, none⟩ = some (.slice none 0 0) ∧ W9.cell? ⟨gr, 4, none⟩ = some (.slice none 0 0) := ⟨hZ9.cell 0, hZ9.cell 1, hZ9.cell 2, hZ9.cell 3, hZ9.cell 4⟩
  have hD := MvS.done (k := (1)) (n := (0)) (s := ⟨#[]⟩) (An := none) (ns := []) (cn := 0) (Ai := none) (is := []) (ci := 0) hM2 hC9 (by omega) (by omega) (by decide) (by simp)
  have HD := Lib.hid hD
  have HW9 := Lib.hid hW9
  clear hW9 hD
  go_wp2
  rw [← HW9.out]
  exact bodyPost_ret (v := .tuple #[.agg #[.int .i64 (1), .int .i64 (0), .string ⟨#[]⟩, .slice none 0 0, .slice none 0 0], .slice (some ⟨bb, off + 1, none⟩) (n - 1) (c - 1), .bool true]) (by simp [results, Tryd.results30, go_sem, j0, j1, j2, j3, j4]) rfl ⟨by rw [HE.out]; exact ⟨LV.mk (1) (0) ⟨#[]⟩ none [] 0 none [] 0, (some ⟨bb, off + 1, none⟩), (c - 1), by rw [HRL.out]; rfl, HD.out.1, HD.out.2.1, leaf_j _ _ _, hbr⟩, HD.out.2.2⟩
set_option maxHeartbeats 4000000 in
theorem rv_leaf3 (wh : World) (l : Nat) (A : Option Addr) (c : Nat) (r : List Int) (w : World) (hB : BRow wh A c (3 :: r)) (h0 : Below wh.heap.size wh w) (hl : r.length + 1 ≤ 10000000000000) (hl6 : l ≤ 100) :
    Calls Tryd.prog 30 #[.slice A (r.length + 1) c, .int .i64 ((l : Int) + 1)] w fun e w' => RvIs wh w (valG false (l + 1) (3 :: r)) e w' ∧ Below w.heap.size w w' := by
  obtain ⟨X, hX⟩ : ∃ X, valG false (l + 1) (3 :: r) = X := ⟨_, rfl⟩
  rw [hX]
  have HXX := Lib.hid hX
  obtain ⟨bb, off, rfl, hbb, hcell0⟩ := hB.cells.u8 (l := 3 :: r) (k := 0) (by simp)
  have hcc := hB.len
  have hcm := hB.cap
  have hcut := hB.cut
  simp only [List.length_cons] at hcc
  obtain ⟨n, hn⟩ : ∃ n, r.length + 1 = n := ⟨_, rfl⟩
  rw [hn] at hcc hl ⊢
  have HRN := Lib.hid hn
  have hn0 : (0 : Int) < (n : Int) := by omega
  have hn1 : (1 : Int) ≤ (n : Int) := by omega
  have hnz : ((n : Int) == 0) = false := by rw [beq_eq_false_iff_ne]; omega
  have hlz : ((l : Int) + 1 == 0) = false := by rw [beq_eq_false_iff_ne]; omega
  have hng : 1 ≤ n := by omega
  clear hn hX
  obtain ⟨W, hW⟩ : ∃ W, W = w.alloc (.cells zeroBlk 25) := ⟨_, rfl⟩
  obtain ⟨gr, hgr⟩ : ∃ g, w.heap.size = g := ⟨_, rfl⟩
  obtain ⟨go, hgo⟩ : ∃ g, gr + 1 = g := ⟨_, rfl⟩
  have hWs : W.heap.size = go := by rw [hW, World.size_alloc]; omega
  obtain ⟨W2, hW2⟩ : ∃ W2, W2 = W.alloc (.cells #[.int .i64 (2), .int .i64 0, .string ⟨#[]⟩, .slice none 0 0, .slice none 0 0] 25) := ⟨_, rfl⟩
  have hM2 : MvS w W2 gr go (gr + 2) (2) 0 ⟨#[]⟩ (.slice none 0 0) (.slice none 0 0) [] [] := MvS.fresh (by rw [hW2, hW, ← hgr]; exact (Blk.new w _ _).alloc _) (by rw [hW2, ← hWs]; exact Blk.new W _ _) (by rw [hW2, World.size_alloc]; omega) (by omega) (by omega) (by omega) (by omega) (by omega) (by rw [hW2, hW]; exact ((Below.refl _ _).alloc (Nat.le_refl _) _).alloc (by simp) _)
  have hbhW : Below wh.heap.size wh W := h0.trans (by rw [hW]; exact (Below.refl _ _).alloc h0.size _)
  have e0 : W.cell? ⟨bb, off, none⟩ = some (.int .u8 3) := (hbhW.cell (p := ⟨bb, off, none⟩) hbb).trans (by simpa using hcell0)
  have HW := Lib.hid hW
  have HW2 := Lib.hid hW2
  have HGR := Lib.hid hgr
  have HGO := Lib.hid hgo
  have HWS := Lib.hid hWs
  clear hW hW2 hcell0 hB hbhW
  go_enter Tryd.func30, Tryd.ntmps30
  go_upto_region 1 with fail
  first | rw [← HW.out, hgr] | rw [← HW.out]
  go_upto_region 4 with fail
  first | rw [← HW2.out, hWs] | rw [← HW2.out]
  clear hgr hgo hWs e0
  have d0 : W2.cell? ⟨go, 0, none⟩ = some (.int .i64 (2)) := hM2.v.cell 0
  have hbh : Below wh.heap.size wh W2 := h0.trans (hM2.b.mono h0.size)
  by_cases hc1 : c = 1
  · have hn1' : n = 1 := by omega
    have hr0 : r = [] := List.eq_nil_of_length_eq_zero (by have := HRN.out; omega)
    subst hc1 hn1' hr0
    have hbr : BRow wh (some ⟨bb, off, none⟩) 0 [] := BRow.none
    go_upto_region 5 with fail
    have HE : Hid (X = some (.mk (2) 0 ⟨#[]⟩ [] [], [])) := Lib.hid (by rw [← HXX.out]; exact valG_leaf (by omega))
    obtain ⟨e0, e1, e2, e3, e4⟩ : W2.cell? ⟨go, 0, none⟩ = some (.int .i64 (2)) ∧ W2.cell? ⟨go, 1, none⟩ = some (.int .i64 (0)) ∧ W2.cell? ⟨go, 2, none⟩ = some (.string ⟨#[]⟩) ∧ W2.cell? ⟨go, 3, none⟩ = some (.slice none 0 0) ∧ W2.cell? ⟨go, 4, none⟩ = some (.slice none 0 0) := ⟨hM2.v.cell 0, hM2.v.cell 1, hM2.v.cell 2, hM2.v.cell 3, hM2.v.cell 4⟩
    obtain ⟨x0, x1, x2, x3, x4⟩ : W2.cell? ⟨gr, 0, none⟩ = some (.int .i64 0) ∧ W2.cell? ⟨gr, 1, none⟩ = some (.int .i64 0) ∧ W2.cell? ⟨gr, 2, none⟩ = some (.string ⟨#[]⟩) ∧ W2.cell? ⟨gr, 3, none⟩ = some (.slice none 0 0) ∧ W2.cell? ⟨gr, 4, none⟩ = some (.slice none 0 0) := ⟨hM2.res.cell 0, hM2.res.cell 1, hM2.res.cell 2, hM2.res.cell 3, hM2.res.cell 4⟩
    obtain ⟨y0, y1, y2, y3, y4⟩ : W2.frozen? ⟨gr, 0, none⟩ = false ∧ W2.frozen? ⟨gr, 1, none⟩ = false ∧ W2.frozen? ⟨gr, 2, none⟩ = false ∧ W2.frozen? ⟨gr, 3, none⟩ = false ∧ W2.frozen? ⟨gr, 4, none⟩ = false := ⟨hM2.res.free 0, hM2.res.free 1, hM2.res.free 2, hM2.res.free 3, hM2.res.free 4⟩
    obtain ⟨W9, hW9⟩ : ∃ W9, W9 = (((((W2.setCell ⟨gr, 0, none⟩ (.int .i64 (2))).setCell ⟨gr, 1, none⟩ (.int .i64 (0))).setCell ⟨gr, 2, none⟩ (.string ⟨#[]⟩)).setCell ⟨gr, 3, none⟩ (.slice none 0 0)).setCell ⟨gr, 4, none⟩ (.slice none 0 0)) := ⟨_, rfl⟩
    have hC9 : Chg W2 W9 (fun k => k = gr) := by rw [hW9]; exact chg_five W2 gr (.int .i64 (2)) (.int .i64 (0)) (.string ⟨#[]⟩) (.slice none 0 0) (.slice none 0 0)
    have hZ9 : Blk W9 gr 25 #[.int .i64 (2), .int .i64 (0), .string ⟨#[]⟩, .slice none 0 0, .slice none 0 0] := by rw [hW9]; exact hM2.res.five (.int .i64 (2)) (.int .i64 (0)) (.string ⟨#[]⟩) (.slice none 0 0) (.slice none 0 0)
    obtain ⟨j0, j1, j2, j3, j4⟩ : W9.cell? ⟨gr, 0, none⟩ = some (.int .i64 (2)) ∧ W9.cell? ⟨gr, 1, none⟩ = some (.int .i64 (0)) ∧ W9.cell? ⟨gr, 2, none⟩ = some (.string ⟨#[]⟩) ∧ W9.cell? ⟨gr, 3, none⟩ = some (.slice none 0 0) ∧ W9.cell? ⟨gr, 4, none⟩ = some (.slice none 0 0) := ⟨hZ9.cell 0, hZ9.cell 1, hZ9.cell 2, hZ9.cell 3, hZ9.cell 4⟩
    have hD := MvS.done (k := (2)) (n := (0)) (s := ⟨#[]⟩) (An := none) (ns := []) (cn := 0) (Ai := none) (is := []) (ci := 0) hM2 hC9 (by omega) (by omega) (by decide) (by simp)
    have HD := Lib.hid hD
    have HW9 := Lib.hid hW9
    clear hW9 hD
    go_wp2
    rw [← HW9.out]
    exact bodyPost_ret (v := .tuple #[.agg #[.int .i64 (2), .int .i64 (0), .string ⟨#[]⟩, .slice none 0 0, .slice none 0 0], .slice (some ⟨bb, off, none⟩) 0 0, .bool true]) (by simp [results, Tryd.results30, go_sem, j0, j1, j2, j3, j4]) rfl ⟨by rw [HE.out]; exact ⟨LV.mk (2) (0) ⟨#[]⟩ none [] 0 none [] 0, (some ⟨bb, off, none⟩), 0, rfl, HD.out.1, HD.out.2.1, leaf_j _ _ _, hbr⟩, HD.out.2.2⟩
  have hbr := hcut
  have hrn : r.length = n - 1 := by have := HRN.out; omega
  have HRL := Lib.hid hrn
  clear hrn
  go_upto_region 5 with fail
  have HE : Hid (X = some (.mk (2) 0 ⟨#[]⟩ [] [], r)) := Lib.hid (by rw [← HXX.out]; exact valG_leaf (by omega))
  obtain ⟨e0, e1, e2, e3, e4⟩ : W2.cell? ⟨go, 0, none⟩ = some (.int .i64 (2)) ∧ W2.cell? ⟨go, 1, none⟩ = some (.int .i64 (0)) ∧ W2.cell? ⟨go, 2, none⟩ = some (.string ⟨#[]⟩) ∧ W2.cell? ⟨go, 3, none⟩ = some (.slice none 0 0) ∧ W2.cell? ⟨go, 4, none⟩ = some (.slice none 0 0) := ⟨hM2.v.cell 0, hM2.v.cell 1, hM2.v.cell 2, hM2.v.cell 3, hM2.v.cell 4⟩
  obtain ⟨x0, x1, x2, x3, x4⟩ : W2.cell? ⟨gr, 0, none⟩ = some (.int .i64 0) ∧ W2.cell? ⟨gr, 1, none⟩ = some (.int .i64 0) ∧ W2.cell? ⟨gr, 2, none⟩ = some (.string ⟨#[]⟩) ∧ W2.cell? ⟨gr, 3, none⟩ = some (.slice none 0 0) ∧ W2.cell? ⟨gr, 4, none⟩ = some (.slice none 0 0) := ⟨hM2.res.cell 0, hM2.res.cell 1, hM2.res.cell 2, hM2.res.cell 3, hM2.res.cell 4⟩
  obtain ⟨y0, y1, y2, y3, y4⟩ : W2.frozen? ⟨gr, 0, none⟩ = false ∧ W2.frozen? ⟨gr, 1, none⟩ = false ∧ W2.frozen? ⟨gr, 2, none⟩ = false ∧ W2.frozen? ⟨gr, 3, none⟩ = false ∧ W2.frozen? ⟨gr, 4, none⟩ = false := ⟨hM2.res.free 0, hM2.res.free 1, hM2.res.free 2, hM2.res.free 3, hM2.res.free 4⟩
  obtain ⟨W9, hW9⟩ : ∃ W9, W9 = (((((W2.setCell ⟨gr, 0, none⟩ (.int .i64 (2))).setCell ⟨gr, 1, none⟩ (.int .i64 (0))).setCell ⟨gr, 2, none⟩ (.string ⟨#[]⟩)).setCell ⟨gr, 3, none⟩ (.slice none 0 0)).setCell ⟨gr, 4, none⟩ (.slice none 0 0)) := ⟨_, rfl⟩
  have hC9 : Chg W2 W9 (fun k => k = gr) := by rw [hW9]; exact chg_five W2 gr (.int .i64 (2)) (.int .i64 (0)) (.string ⟨#[]⟩) (.slice none 0 0) (.slice none 0 0)
  have hZ9 : Blk W9 gr 25 #[.int .i64 (2), .int .i64 (0), .string ⟨#[]⟩, .slice none 0 0, .slice none 0 0] := by rw [hW9]; exact hM2.res.five (.int .i64 (2)) (.int .i64 (0)) (.string ⟨#[]⟩) (.slice none 0 0) (.slice none 0 0)
  obtain ⟨j0, j1, j2, j3, j4⟩ : W9.cell? ⟨gr, 0, none⟩ = some (.int .i64 (2)) ∧ W9.cell? ⟨gr, 1, none⟩ = some (.int .i64 (0)) ∧ W9.cell? ⟨gr, 2, none⟩ = some (.string ⟨#[]⟩) ∧ W9.cell? ⟨gr, 3, none⟩ = some (.slice none 0 0) ∧ W9.cell? ⟨gr, 4, none⟩ = some (.slice none 0 0) := ⟨hZ9.cell 0, hZ9.cell 1, hZ9.cell 2, hZ9.cell 3, hZ9.cell 4⟩
  have hD := MvS.done (k := (2)) (n := (0)) (s := ⟨#[]⟩) (An := none) (ns := []) (cn := 0) (Ai := none) (is := []) (ci := 0) hM2 hC9 (by omega) (by omega) (by decide) (by simp)
  have HD := Lib.hid hD
  have HW9 := Lib.hid hW9
  clear hW9 hD
  go_wp2
  rw [← HW9.out]
  exact bodyPost_ret (v := .tuple #[.agg #[.int .i64 (2), .int .i64 (0), .string ⟨#[]⟩, .slice none 0 0, .slice none 0 0], .slice (some ⟨bb, off + 1, none⟩) (n - 1) (c - 1), .bool true]) (by simp [results, Tryd.results30, go_sem, j0, j1, j2, j3, j4]) rfl ⟨by rw [HE.out]; exact ⟨LV.mk (2) (0) ⟨#[]⟩ none [] 0 none [] 0, (some ⟨bb, off + 1, none⟩), (c - 1), by rw [HRL.out]; rfl, HD.out.1, HD.out.2.1, leaf_j _ _ _, hbr⟩, HD.out.2.2⟩
set_option maxHeartbeats 8000000 in
theorem rv_int (wh : World) (l : Nat) (A : Option Addr) (c : Nat) (r : List Int) (w : World) (hB : BRow wh A c (4 :: r)) (h0 : Below wh.heap.size wh w) (hl : r.length + 1 ≤ 10000000000000) (hl6 : l ≤ 100) :
    Calls Tryd.prog 30 #[.slice A (r.length + 1) c, .int .i64 ((l : Int) + 1)] w fun e w' => RvIs wh w (valG false (l + 1) (4 :: r)) e w' ∧ Below w.heap.size w w' := by
  have hob : Oct r := fun y hy => hB.oct y (by simp [hy])
  obtain ⟨X, hX⟩ : ∃ X, valG false (l + 1) (4 :: r) = X := ⟨_, rfl⟩
  rw [hX]
  have HXX := Lib.hid hX
  obtain ⟨bb, off, rfl, hbb, hcell0⟩ := hB.cells.u8 (l := 4 :: r) (k := 0) (by simp)
  have hcc := hB.len
  have hcm := hB.cap
  have hcut := hB.cut
  simp only [List.length_cons] at hcc
  obtain ⟨n, hn⟩ : ∃ n, r.length + 1 = n := ⟨_, rfl⟩
  rw [hn] at hcc hl ⊢
  have HRN := Lib.hid hn
  have hn0 : (0 : Int) < (n : Int) := by omega
  have hn1 : (1 : Int) ≤ (n : Int) := by omega
  have hnz : ((n : Int) == 0) = false := by rw [beq_eq_false_iff_ne]; omega
  have hlz : ((l : Int) + 1 == 0) = false := by rw [beq_eq_false_iff_ne]; omega
  have hng : 1 ≤ n := by omega
  clear hn hX
  obtain ⟨W, hW⟩ : ∃ W, W = w.alloc (.cells zeroBlk 25) := ⟨_, rfl⟩
  obtain ⟨gr, hgr⟩ : ∃ g, w.heap.size = g := ⟨_, rfl⟩
  obtain ⟨go, hgo⟩ : ∃ g, gr + 1 = g := ⟨_, rfl⟩
  have hWs : W.heap.size = go := by rw [hW, World.size_alloc]; omega
  obtain ⟨W2, hW2⟩ : ∃ W2, W2 = W.alloc (.cells #[.int .i64 (3), .int .i64 0, .string ⟨#[]⟩, .slice none 0 0, .slice none 0 0] 25) := ⟨_, rfl⟩
  have hM2 : MvS w W2 gr go (gr + 2) (3) 0 ⟨#[]⟩ (.slice none 0 0) (.slice none 0 0) [] [] := MvS.fresh (by rw [hW2, hW, ← hgr]; exact (Blk.new w _ _).alloc _) (by rw [hW2, ← hWs]; exact Blk.new W _ _) (by rw [hW2, World.size_alloc]; omega) (by omega) (by omega) (by omega) (by omega) (by omega) (by rw [hW2, hW]; exact ((Below.refl _ _).alloc (Nat.le_refl _) _).alloc (by simp) _)
  have hbhW : Below wh.heap.size wh W := h0.trans (by rw [hW]; exact (Below.refl _ _).alloc h0.size _)
  have e0 : W.cell? ⟨bb, off, none⟩ = some (.int .u8 4) := (hbhW.cell (p := ⟨bb, off, none⟩) hbb).trans (by simpa using hcell0)
  have HW := Lib.hid hW
  have HW2 := Lib.hid hW2
  have HGR := Lib.hid hgr
  have HGO := Lib.hid hgo
  have HWS := Lib.hid hWs
  clear hW hW2 hcell0 hB hbhW
  go_enter Tryd.func30, Tryd.ntmps30
  go_upto_region 1 with fail
  first | rw [← HW.out, hgr] | rw [← HW.out]
  go_upto_region 4 with fail
  first | rw [← HW2.out, hWs] | rw [← HW2.out]
  clear hgr hgo hWs e0
  have d0 : W2.cell? ⟨go, 0, none⟩ = some (.int .i64 (3)) := hM2.v.cell 0
  have hbh : Below wh.heap.size wh W2 := h0.trans (hM2.b.mono h0.size)
  by_cases hc1 : c = 1
  · have hn1' : n = 1 := by omega
    have hr0 : r = [] := List.eq_nil_of_length_eq_zero (by have := HRN.out; omega)
    subst hc1 hn1' hr0
    have hbr : BRow wh (some ⟨bb, off, none⟩) 0 [] := BRow.none
    go_upto_region 5 with fail
    have HE : Hid (X = none) := Lib.hid (by rw [← HXX.out, valG_int]; rfl)
    obtain ⟨e0, e1, e2, e3, e4⟩ : W2.cell? ⟨go, 0, none⟩ = some (.int .i64 (3)) ∧ W2.cell? ⟨go, 1, none⟩ = some (.int .i64 (0)) ∧ W2.cell? ⟨go, 2, none⟩ = some (.string ⟨#[]⟩) ∧ W2.cell? ⟨go, 3, none⟩ = some (.slice none 0 0) ∧ W2.cell? ⟨go, 4, none⟩ = some (.slice none 0 0) := ⟨hM2.v.cell 0, hM2.v.cell 1, hM2.v.cell 2, hM2.v.cell 3, hM2.v.cell 4⟩
    obtain ⟨x0, x1, x2, x3, x4⟩ : W2.cell? ⟨gr, 0, none⟩ = some (.int .i64 0) ∧ W2.cell? ⟨gr, 1, none⟩ = some (.int .i64 0) ∧ W2.cell? ⟨gr, 2, none⟩ = some (.string ⟨#[]⟩) ∧ W2.cell? ⟨gr, 3, none⟩ = some (.slice none 0 0) ∧ W2.cell? ⟨gr, 4, none⟩ = some (.slice none 0 0) := ⟨hM2.res.cell 0, hM2.res.cell 1, hM2.res.cell 2, hM2.res.cell 3, hM2.res.cell 4⟩
    obtain ⟨y0, y1, y2, y3, y4⟩ : W2.frozen? ⟨gr, 0, none⟩ = false ∧ W2.frozen? ⟨gr, 1, none⟩ = false ∧ W2.frozen? ⟨gr, 2, none⟩ = false ∧ W2.frozen? ⟨gr, 3, none⟩ = false ∧ W2.frozen? ⟨gr, 4, none⟩ = false := ⟨hM2.res.free 0, hM2.res.free 1, hM2.res.free 2, hM2.res.free 3, hM2.res.free 4⟩
    obtain ⟨W9, hW9⟩ : ∃ W9, W9 = (((((W2.setCell ⟨gr, 0, none⟩ (.int .i64 (3))).setCell ⟨gr, 1, none⟩ (.int .i64 (0))).setCell ⟨gr, 2, none⟩ (.string ⟨#[]⟩)).setCell ⟨gr, 3, none⟩ (.slice none 0 0)).setCell ⟨gr, 4, none⟩ (.slice none 0 0)) := ⟨_, rfl⟩
    have hC9 : Chg W2 W9 (fun k => k = gr) := by rw [hW9]; exact chg_five W2 gr (.int .i64 (3)) (.int .i64 (0)) (.string ⟨#[]⟩) (.slice none 0 0) (.slice none 0 0)
    have hZ9 : Blk W9 gr 25 #[.int .i64 (3), .int .i64 (0), .string ⟨#[]⟩, .slice none 0 0, .slice none 0 0] := by rw [hW9]; exact hM2.res.five (.int .i64 (3)) (.int .i64 (0)) (.string ⟨#[]⟩) (.slice none 0 0) (.slice none 0 0)
    obtain ⟨j0, j1, j2, j3, j4⟩ : W9.cell? ⟨gr, 0, none⟩ = some (.int .i64 (3)) ∧ W9.cell? ⟨gr, 1, none⟩ = some (.int .i64 (0)) ∧ W9.cell? ⟨gr, 2, none⟩ = some (.string ⟨#[]⟩) ∧ W9.cell? ⟨gr, 3, none⟩ = some (.slice none 0 0) ∧ W9.cell? ⟨gr, 4, none⟩ = some (.slice none 0 0) := ⟨hZ9.cell 0, hZ9.cell 1, hZ9.cell 2, hZ9.cell 3, hZ9.cell 4⟩
    have hD := MvS.done (k := (3)) (n := (0)) (s := ⟨#[]⟩) (An := none) (ns := []) (cn := 0) (Ai := none) (is := []) (ci := 0) hM2 hC9 (by omega) (by omega) (by decide) (by simp)
    have HD := Lib.hid hD
    have HW9 := Lib.hid hW9
    clear hW9 hD
    go_wp2
    rw [← HW9.out]
    exact bodyPost_ret (v := .tuple #[.agg #[.int .i64 (3), .int .i64 (0), .string ⟨#[]⟩, .slice none 0 0, .slice none 0 0], .slice none 0 0, .bool false]) (by simp [results, Tryd.results30, go_sem, j0, j1, j2, j3, j4]) rfl ⟨by rw [HE.out]; exact ⟨LV.mk (3) (0) ⟨#[]⟩ none [] 0 none [] 0, none, 0, 0, rfl⟩, HD.out.2.2⟩
  have hbr := hcut
  have hrn : r.length = n - 1 := by have := HRN.out; omega
  have HRL := Lib.hid hrn
  clear hrn
  go_upto_region 5 with fail
  by_cases h8 : n - 1 < 8
  · have h8I : ((n - 1 : Nat) : Int) < 8 := by omega
    have HE : Hid (X = none) := Lib.hid (by rw [← HXX.out, valG_int, if_pos (by rw [HRL.out]; exact h8)])
    clear h8
    obtain ⟨e0, e1, e2, e3, e4⟩ : W2.cell? ⟨go, 0, none⟩ = some (.int .i64 (3)) ∧ W2.cell? ⟨go, 1, none⟩ = some (.int .i64 (0)) ∧ W2.cell? ⟨go, 2, none⟩ = some (.string ⟨#[]⟩) ∧ W2.cell? ⟨go, 3, none⟩ = some (.slice none 0 0) ∧ W2.cell? ⟨go, 4, none⟩ = some (.slice none 0 0) := ⟨hM2.v.cell 0, hM2.v.cell 1, hM2.v.cell 2, hM2.v.cell 3, hM2.v.cell 4⟩
    obtain ⟨x0, x1, x2, x3, x4⟩ : W2.cell? ⟨gr, 0, none⟩ = some (.int .i64 0) ∧ W2.cell? ⟨gr, 1, none⟩ = some (.int .i64 0) ∧ W2.cell? ⟨gr, 2, none⟩ = some (.string ⟨#[]⟩) ∧ W2.cell? ⟨gr, 3, none⟩ = some (.slice none 0 0) ∧ W2.cell? ⟨gr, 4, none⟩ = some (.slice none 0 0) := ⟨hM2.res.cell 0, hM2.res.cell 1, hM2.res.cell 2, hM2.res.cell 3, hM2.res.cell 4⟩
    obtain ⟨y0, y1, y2, y3, y4⟩ : W2.frozen? ⟨gr, 0, none⟩ = false ∧ W2.frozen? ⟨gr, 1, none⟩ = false ∧ W2.frozen? ⟨gr, 2, none⟩ = false ∧ W2.frozen? ⟨gr, 3, none⟩ = false ∧ W2.frozen? ⟨gr, 4, none⟩ = false := ⟨hM2.res.free 0, hM2.res.free 1, hM2.res.free 2, hM2.res.free 3, hM2.res.free 4⟩
    obtain ⟨W9, hW9⟩ : ∃ W9, W9 = (((((W2.setCell ⟨gr, 0, none⟩ (.int .i64 (3))).setCell ⟨gr, 1, none⟩ (.int .i64 (0))).setCell ⟨gr, 2, none⟩ (.string ⟨#[]⟩)).setCell ⟨gr, 3, none⟩ (.slice none 0 0)).setCell ⟨gr, 4, none⟩ (.slice none 0 0)) := ⟨_, rfl⟩
    have hC9 : Chg W2 W9 (fun k => k = gr) := by rw [hW9]; exact chg_five W2 gr (.int .i64 (3)) (.int .i64 (0)) (.string ⟨#[]⟩) (.slice none 0 0) (.slice none 0 0)
    have hZ9 : Blk W9 gr 25 #[.int .i64 (3), .int .i64 (0), .string ⟨#[]⟩, .slice none 0 0, .slice none 0 0] := by rw [hW9]; exact hM2.res.five (.int .i64 (3)) (.int .i64 (0)) (.string ⟨#[]⟩) (.slice none 0 0) (.slice none 0 0)
    obtain ⟨j0, j1, j2, j3, j4⟩ : W9.cell? ⟨gr, 0, none⟩ = some (.int .i64 (3)) ∧ W9.cell? ⟨gr, 1, none⟩ = some (.int .i64 (0)) ∧ W9.cell? ⟨gr, 2, none⟩ = some (.string ⟨#[]⟩) ∧ W9.cell? ⟨gr, 3, none⟩ = some (.slice none 0 0) ∧ W9.cell? ⟨gr, 4, none⟩ = some (.slice none 0 0) := ⟨hZ9.cell 0, hZ9.cell 1, hZ9.cell 2, hZ9.cell 3, hZ9.cell 4⟩
    have hD := MvS.done (k := (3)) (n := (0)) (s := ⟨#[]⟩) (An := none) (ns := []) (cn := 0) (Ai := none) (is := []) (ci := 0) hM2 hC9 (by omega) (by omega) (by decide) (by simp)
    have HD := Lib.hid hD
    have HW9 := Lib.hid hW9
    clear hW9 hD
    go_wp2
    rw [← HW9.out]
    exact bodyPost_ret (v := .tuple #[.agg #[.int .i64 (3), .int .i64 (0), .string ⟨#[]⟩, .slice none 0 0, .slice none 0 0], .slice none 0 0, .bool false]) (by simp [results, Tryd.results30, go_sem, j0, j1, j2, j3, j4]) rfl ⟨by rw [HE.out]; exact ⟨LV.mk (3) (0) ⟨#[]⟩ none [] 0 none [] 0, none, 0, 0, rfl⟩, HD.out.2.2⟩
  have h8I : ¬ ((n - 1 : Nat) : Int) < 8 := by omega
  have hlr : 8 ≤ r.length := by rw [HRL.out]; omega
  have HLR := Lib.hid hlr
  have HBR := Lib.hid hbr
  clear hlr
  go_wp2
  go_loop [8, 9] (fun x i => ∃ k : Nat, k ≤ 8 ∧ i = .int .i64 k ∧ x = .int .u64 (num (r.take k) 0)) (fun _ i => 8 - (RowKit.intOf i).toNat)
  case atStart => exact ⟨0, Nat.zero_le _, rfl, rfl⟩
  case round =>
    obtain ⟨k, hk, rfl, rfl⟩ := hrel
    by_cases hlt : k < 8
    · have hlt' : k < r.length := by have := HLR.out; omega
      have hkI : (k : Int) < 8 := by omega
      have hkn : (k : Int) < ((n - 1 : Nat) : Int) := by omega
      have hk0 : (0 : Int) ≤ (k : Int) := by omega
      have hcell : W2.cell? ⟨bb, off + 1 + k, none⟩ = some (.int .u8 (r[k]'hlt')) := (hbh.cell (p := ⟨bb, off + 1 + k, none⟩) hbb).trans (HBR.out.cells.knownU hlt')
      have hbd := num_take_bd (r.take 8) (hob.take 8) (by rw [List.length_take]; have := HLR.out; omega) k hlt
      have htt : (r.take 8).take k = r.take k := by rw [List.take_take, Nat.min_eq_left (by omega)]
      rw [htt] at hbd
      have hoct := hob.at_ (List.getElem?_eq_getElem hlt')
      have HS : Hid (num (r.take (k + 1)) 0 = num (r.take k) 0 * 256 + r[k]) := Lib.hid (by rw [take_snoc r k hlt', num_snoc])
      have hw1 : IntKind.u64.wrap (num (r.take k) 0 * 256) = num (r.take k) 0 * 256 := by rw [IntKind.wrap_u64]; omega
      have hw2 : IntKind.u64.wrap (num (r.take k) 0 * 256 + r[k]) = num (r.take k) 0 * 256 + r[k] := by rw [IntKind.wrap_u64]; omega
      have hw3 : IntKind.u64.wrap r[k] = r[k] := by rw [IntKind.wrap_u64]; omega
      generalize num (r.take k) 0 = y at *
      generalize r[k] = z at *
      clear htt
      go_wp2
      go_round
      case rel => exact ⟨k + 1, by omega, by go_num, by rw [HS.out]⟩
      case measure => simp [RowKit.intOf]; omega
    · have hk8 : k = 8 := by omega
      subst hk8
      have hnb := num_eight (r.take 8) (hob.take 8) (by rw [List.length_take]; have := HLR.out; omega)
      have hst := sub_top _ hnb.1 hnb.2
      obtain ⟨M, hM⟩ : ∃ M, num (r.take 8) 0 - 9223372036854775808 = M := ⟨_, rfl⟩
      have HE : Hid (X = some (.mk 3 M ⟨#[]⟩ [] [], r.drop 8)) := Lib.hid (by rw [← HXX.out, valG_int, if_neg (by have := HLR.out; omega), hM])
      have HMB : Hid (-9223372036854775808 ≤ M ∧ M ≤ 9223372036854775807) := Lib.hid (by omega)
      obtain ⟨Z, hZ⟩ : ∃ Z, IntKind.u64.wrap (num (r.take 8) 0 - 9223372036854775808) = Z := ⟨_, rfl⟩
      rw [hZ, hM] at hst
      generalize num (r.take 8) 0 = NN at *
      have HMM := Lib.hid hM
      clear hM hnb
      have hM3 := hM2.cell (k' := 3) (n' := M) (s' := ⟨#[]⟩) 1 (.int .i64 M) (by simp)
      obtain ⟨w3, hw3⟩ : ∃ w3, w3 = W2.setCell ⟨go, 1, none⟩ (.int .i64 M) := ⟨_, rfl⟩
      rw [← hw3] at hM3
      have HW3 := Lib.hid hw3
      clear hw3
      have d1 : W2.cell? ⟨go, 1, none⟩ = some (.int .i64 0) := hM2.v.cell 1
      have d1' := hM2.v.free 1
      go_upto_region 15 with fail
      rw [← HW3.out]
      clear d0 d1 d1'
      by_cases hc8 : c - 1 = 8
      · have hn8 : n - 1 = 8 := by omega
        have hrd : r.drop 8 = [] := List.drop_of_length_le (by rw [HRL.out]; omega)
        rw [hrd] at HE
        rw [hn8, hc8]
        have HN8 := Lib.hid hn8
        clear hn8 hrd
        obtain ⟨e0, e1, e2, e3, e4⟩ : w3.cell? ⟨go, 0, none⟩ = some (.int .i64 (3)) ∧ w3.cell? ⟨go, 1, none⟩ = some (.int .i64 (M)) ∧ w3.cell? ⟨go, 2, none⟩ = some (.string ⟨#[]⟩) ∧ w3.cell? ⟨go, 3, none⟩ = some (.slice none 0 0) ∧ w3.cell? ⟨go, 4, none⟩ = some (.slice none 0 0) := ⟨hM3.v.cell 0, hM3.v.cell 1, hM3.v.cell 2, hM3.v.cell 3, hM3.v.cell 4⟩
        obtain ⟨x0, x1, x2, x3, x4⟩ : w3.cell? ⟨gr, 0, none⟩ = some (.int .i64 0) ∧ w3.cell? ⟨gr, 1, none⟩ = some (.int .i64 0) ∧ w3.cell? ⟨gr, 2, none⟩ = some (.string ⟨#[]⟩) ∧ w3.cell? ⟨gr, 3, none⟩ = some (.slice none 0 0) ∧ w3.cell? ⟨gr, 4, none⟩ = some (.slice none 0 0) := ⟨hM3.res.cell 0, hM3.res.cell 1, hM3.res.cell 2, hM3.res.cell 3, hM3.res.cell 4⟩
        obtain ⟨y0, y1, y2, y3, y4⟩ : w3.frozen? ⟨gr, 0, none⟩ = false ∧ w3.frozen? ⟨gr, 1, none⟩ = false ∧ w3.frozen? ⟨gr, 2, none⟩ = false ∧ w3.frozen? ⟨gr, 3, none⟩ = false ∧ w3.frozen? ⟨gr, 4, none⟩ = false := ⟨hM3.res.free 0, hM3.res.free 1, hM3.res.free 2, hM3.res.free 3, hM3.res.free 4⟩
        obtain ⟨W9, hW9⟩ : ∃ W9, W9 = (((((w3.setCell ⟨gr, 0, none⟩ (.int .i64 (3))).setCell ⟨gr, 1, none⟩ (.int .i64 (M))).setCell ⟨gr, 2, none⟩ (.string ⟨#[]⟩)).setCell ⟨gr, 3, none⟩ (.slice none 0 0)).setCell ⟨gr, 4, none⟩ (.slice none 0 0)) := ⟨_, rfl⟩
        have hC9 : Chg w3 W9 (fun k => k = gr) := by rw [hW9]; exact chg_five w3 gr (.int .i64 (3)) (.int .i64 (M)) (.string ⟨#[]⟩) (.slice none 0 0) (.slice none 0 0)
        have hZ9 : Blk W9 gr 25 #[.int .i64 (3), .int .i64 (M), .string ⟨#[]⟩, .slice none 0 0, .slice none 0 0] := by rw [hW9]; exact hM3.res.five (.int .i64 (3)) (.int .i64 (M)) (.string ⟨#[]⟩) (.slice none 0 0) (.slice none 0 0)
        obtain ⟨j0, j1, j2, j3, j4⟩ : W9.cell? ⟨gr, 0, none⟩ = some (.int .i64 (3)) ∧ W9.cell? ⟨gr, 1, none⟩ = some (.int .i64 (M)) ∧ W9.cell? ⟨gr, 2, none⟩ = some (.string ⟨#[]⟩) ∧ W9.cell? ⟨gr, 3, none⟩ = some (.slice none 0 0) ∧ W9.cell? ⟨gr, 4, none⟩ = some (.slice none 0 0) := ⟨hZ9.cell 0, hZ9.cell 1, hZ9.cell 2, hZ9.cell 3, hZ9.cell 4⟩
        have hD := MvS.done (k := (3)) (n := (M)) (s := ⟨#[]⟩) (An := none) (ns := []) (cn := 0) (Ai := none) (is := []) (ci := 0) hM3 hC9 (by omega) HMB.out (by decide) (by simp)
        have HD := Lib.hid hD
        have HW9 := Lib.hid hW9
        clear hW9 hD
        go_region
        go_wp2
        rw [← HW9.out]
        obtain ⟨k0, k1, k2, k3, k4⟩ : W9.drew.cell? ⟨gr, 0, none⟩ = some (.int .i64 (3)) ∧ W9.drew.cell? ⟨gr, 1, none⟩ = some (.int .i64 (M)) ∧ W9.drew.cell? ⟨gr, 2, none⟩ = some (.string ⟨#[]⟩) ∧ W9.drew.cell? ⟨gr, 3, none⟩ = some (.slice none 0 0) ∧ W9.drew.cell? ⟨gr, 4, none⟩ = some (.slice none 0 0) := ⟨j0, j1, j2, j3, j4⟩
        exact bodyPost_ret (v := .tuple #[.agg #[.int .i64 (3), .int .i64 (M), .string ⟨#[]⟩, .slice none 0 0, .slice none 0 0], .slice (some ⟨bb, off + 1, none⟩) 0 0, .bool true]) (by simp [results, Tryd.results30, go_sem, k0, k1, k2, k3, k4]) rfl ⟨by rw [HE.out]; exact ⟨LV.mk (3) (M) ⟨#[]⟩ none [] 0 none [] 0, (some ⟨bb, off + 1, none⟩), 0, rfl, LV.At.below (Below.refl _ _).drew _ HD.out.1, HD.out.2.1, leaf_j _ _ _, BRow.none⟩, HD.out.2.2.drew⟩
      have h8n : (8 : Int) ≤ ((n - 1 : Nat) : Int) := by omega
      obtain ⟨e0, e1, e2, e3, e4⟩ : w3.cell? ⟨go, 0, none⟩ = some (.int .i64 (3)) ∧ w3.cell? ⟨go, 1, none⟩ = some (.int .i64 (M)) ∧ w3.cell? ⟨go, 2, none⟩ = some (.string ⟨#[]⟩) ∧ w3.cell? ⟨go, 3, none⟩ = some (.slice none 0 0) ∧ w3.cell? ⟨go, 4, none⟩ = some (.slice none 0 0) := ⟨hM3.v.cell 0, hM3.v.cell 1, hM3.v.cell 2, hM3.v.cell 3, hM3.v.cell 4⟩
      obtain ⟨x0, x1, x2, x3, x4⟩ : w3.cell? ⟨gr, 0, none⟩ = some (.int .i64 0) ∧ w3.cell? ⟨gr, 1, none⟩ = some (.int .i64 0) ∧ w3.cell? ⟨gr, 2, none⟩ = some (.string ⟨#[]⟩) ∧ w3.cell? ⟨gr, 3, none⟩ = some (.slice none 0 0) ∧ w3.cell? ⟨gr, 4, none⟩ = some (.slice none 0 0) := ⟨hM3.res.cell 0, hM3.res.cell 1, hM3.res.cell 2, hM3.res.cell 3, hM3.res.cell 4⟩
      obtain ⟨y0, y1, y2, y3, y4⟩ : w3.frozen? ⟨gr, 0, none⟩ = false ∧ w3.frozen? ⟨gr, 1, none⟩ = false ∧ w3.frozen? ⟨gr, 2, none⟩ = false ∧ w3.frozen? ⟨gr, 3, none⟩ = false ∧ w3.frozen? ⟨gr, 4, none⟩ = false := ⟨hM3.res.free 0, hM3.res.free 1, hM3.res.free 2, hM3.res.free 3, hM3.res.free 4⟩
      obtain ⟨W9, hW9⟩ : ∃ W9, W9 = (((((w3.setCell ⟨gr, 0, none⟩ (.int .i64 (3))).setCell ⟨gr, 1, none⟩ (.int .i64 (M))).setCell ⟨gr, 2, none⟩ (.string ⟨#[]⟩)).setCell ⟨gr, 3, none⟩ (.slice none 0 0)).setCell ⟨gr, 4, none⟩ (.slice none 0 0)) := ⟨_, rfl⟩
      have hC9 : Chg w3 W9 (fun k => k = gr) := by rw [hW9]; exact chg_five w3 gr (.int .i64 (3)) (.int .i64 (M)) (.string ⟨#[]⟩) (.slice none 0 0) (.slice none 0 0)
      have hZ9 : Blk W9 gr 25 #[.int .i64 (3), .int .i64 (M), .string ⟨#[]⟩, .slice none 0 0, .slice none 0 0] := by rw [hW9]; exact hM3.res.five (.int .i64 (3)) (.int .i64 (M)) (.string ⟨#[]⟩) (.slice none 0 0) (.slice none 0 0)
      obtain ⟨j0, j1, j2, j3, j4⟩ : W9.cell? ⟨gr, 0, none⟩ = some (.int .i64 (3)) ∧ W9.cell? ⟨gr, 1, none⟩ = some (.int .i64 (M)) ∧ W9.cell? ⟨gr, 2, none⟩ = some (.string ⟨#[]⟩) ∧ W9.cell? ⟨gr, 3, none⟩ = some (.slice none 0 0) ∧ W9.cell? ⟨gr, 4, none⟩ = some (.slice none 0 0) := ⟨hZ9.cell 0, hZ9.cell 1, hZ9.cell 2, hZ9.cell 3, hZ9.cell 4⟩
      have hD := MvS.done (k := (3)) (n := (M)) (s := ⟨#[]⟩) (An := none) (ns := []) (cn := 0) (Ai := none) (is := []) (ci := 0) hM3 hC9 (by omega) HMB.out (by decide) (by simp)
      have HD := Lib.hid hD
      have HW9 := Lib.hid hW9
      clear hW9 hD
      go_region
      go_wp2
      rw [← HW9.out]
      obtain ⟨k0, k1, k2, k3, k4⟩ : W9.drew.cell? ⟨gr, 0, none⟩ = some (.int .i64 (3)) ∧ W9.drew.cell? ⟨gr, 1, none⟩ = some (.int .i64 (M)) ∧ W9.drew.cell? ⟨gr, 2, none⟩ = some (.string ⟨#[]⟩) ∧ W9.drew.cell? ⟨gr, 3, none⟩ = some (.slice none 0 0) ∧ W9.drew.cell? ⟨gr, 4, none⟩ = some (.slice none 0 0) := ⟨j0, j1, j2, j3, j4⟩
      exact bodyPost_ret (v := .tuple #[.agg #[.int .i64 (3), .int .i64 (M), .string ⟨#[]⟩, .slice none 0 0, .slice none 0 0], .slice (some ⟨bb, off + 1 + 8, none⟩) (n - 1 - 8) (c - 1 - 8), .bool true]) (by simp [results, Tryd.results30, go_sem, k0, k1, k2, k3, k4]) rfl ⟨by rw [HE.out]; exact ⟨LV.mk (3) (M) ⟨#[]⟩ none [] 0 none [] 0, (some ⟨bb, off + 1 + 8, none⟩), (c - 1 - 8), by rw [List.length_drop, HRL.out]; rfl, LV.At.below (Below.refl _ _).drew _ HD.out.1, HD.out.2.1, leaf_j _ _ _, HBR.out.sub 8 HLR.out⟩, HD.out.2.2.drew⟩
set_option maxHeartbeats 8000000 in
theorem rv_str (wh : World) (l : Nat) (A : Option Addr) (c : Nat) (r : List Int) (w : World) (hB : BRow wh A c (5 :: r)) (h0 : Below wh.heap.size wh w) (hl : r.length + 1 ≤ 10000000000000) (hl6 : l ≤ 100) :
    Calls Tryd.prog 30 #[.slice A (r.length + 1) c, .int .i64 ((l : Int) + 1)] w fun e w' => RvIs wh w (valG false (l + 1) (5 :: r)) e w' ∧ Below w.heap.size w w' := by
  obtain ⟨X, hX⟩ : ∃ X, valG false (l + 1) (5 :: r) = X := ⟨_, rfl⟩
  rw [hX]
  have HXX := Lib.hid hX
  obtain ⟨bb, off, rfl, hbb, hcell0⟩ := hB.cells.u8 (l := 5 :: r) (k := 0) (by simp)
  have hcc := hB.len
  have hcm := hB.cap
  have hcut := hB.cut
  simp only [List.length_cons] at hcc
  obtain ⟨n, hn⟩ : ∃ n, r.length + 1 = n := ⟨_, rfl⟩
  rw [hn] at hcc hl ⊢
  have HRN := Lib.hid hn
  have hn0 : (0 : Int) < (n : Int) := by omega
  have hn1 : (1 : Int) ≤ (n : Int) := by omega
  have hnz : ((n : Int) == 0) = false := by rw [beq_eq_false_iff_ne]; omega
  have hlz : ((l : Int) + 1 == 0) = false := by rw [beq_eq_false_iff_ne]; omega
  have hng : 1 ≤ n := by omega
  clear hn hX
  obtain ⟨W, hW⟩ : ∃ W, W = w.alloc (.cells zeroBlk 25) := ⟨_, rfl⟩
  obtain ⟨gr, hgr⟩ : ∃ g, w.heap.size = g := ⟨_, rfl⟩
  obtain ⟨go, hgo⟩ : ∃ g, gr + 1 = g := ⟨_, rfl⟩
  have hWs : W.heap.size = go := by rw [hW, World.size_alloc]; omega
  obtain ⟨W2, hW2⟩ : ∃ W2, W2 = W.alloc (.cells #[.int .i64 (4), .int .i64 0, .string ⟨#[]⟩, .slice none 0 0, .slice none 0 0] 25) := ⟨_, rfl⟩
  have hM2 : MvS w W2 gr go (gr + 2) (4) 0 ⟨#[]⟩ (.slice none 0 0) (.slice none 0 0) [] [] := MvS.fresh (by rw [hW2, hW, ← hgr]; exact (Blk.new w _ _).alloc _) (by rw [hW2, ← hWs]; exact Blk.new W _ _) (by rw [hW2, World.size_alloc]; omega) (by omega) (by omega) (by omega) (by omega) (by omega) (by rw [hW2, hW]; exact ((Below.refl _ _).alloc (Nat.le_refl _) _).alloc (by simp) _)
  have hbhW : Below wh.heap.size wh W := h0.trans (by rw [hW]; exact (Below.refl _ _).alloc h0.size _)
  have e0 : W.cell? ⟨bb, off, none⟩ = some (.int .u8 5) := (hbhW.cell (p := ⟨bb, off, none⟩) hbb).trans (by simpa using hcell0)
  have HW := Lib.hid hW
  have HW2 := Lib.hid hW2
  have HGR := Lib.hid hgr
  have HGO := Lib.hid hgo
  have HWS := Lib.hid hWs
  clear hW hW2 hcell0 hB hbhW
  go_enter Tryd.func30, Tryd.ntmps30
  go_upto_region 1 with fail
  first | rw [← HW.out, hgr] | rw [← HW.out]
  go_upto_region 4 with fail
  first | rw [← HW2.out, hWs] | rw [← HW2.out]
  clear hgr hgo hWs e0
  have d0 : W2.cell? ⟨go, 0, none⟩ = some (.int .i64 (4)) := hM2.v.cell 0
  have hbh : Below wh.heap.size wh W2 := h0.trans (hM2.b.mono h0.size)
  by_cases hc1 : c = 1
  · have hn1' : n = 1 := by omega
    have hr0 : r = [] := List.eq_nil_of_length_eq_zero (by have := HRN.out; omega)
    subst hc1 hn1' hr0
    have hbr : BRow wh (some ⟨bb, off, none⟩) 0 [] := BRow.none
    go_upto_region 5 with fail
    obtain ⟨G, hG⟩ : ∃ G, getB [] = G := ⟨_, rfl⟩
    have HXG : Hid (X = strJ G) := Lib.hid (by rw [← HXX.out, ← hG]; exact valG_strJ)
    have HG : Hid (Calls Tryd.prog 48 #[.slice (some ⟨bb, off, none⟩) 0 0] W2 fun e w' => GetTIs wh G e ∧ Below W2.heap.size W2 w') := Lib.hid (by have h := getT_any wh (some ⟨bb, off, none⟩) 0 [] W2 hbr hbh (by simp); rw [hG] at h; exact h)
    have HGB := Lib.hid hG
    clear hG
    go_wp2_with fail
    refine HG.out.mono ?_
    rintro e w3 ⟨hgt, hb3⟩
    have hM3 := hM2.below hb3
    clear d0
    have d2 : w3.cell? ⟨go, 2, none⟩ = some (.string ⟨#[]⟩) := hM3.v.cell 2
    have d2' := hM3.v.free 2
    cases G with
    | none =>
      have HE : Hid (X = none) := Lib.hid (by rw [HXG.out]; rfl)
      have hgt' : e = .returned (.tuple #[.string ⟨#[]⟩, .slice none 0 0, .bool false]) := hgt
      clear hgt HG
      subst hgt'
      have hM4 := hM3.cell (k' := 4) (n' := 0) (s' := ⟨#[]⟩) 2 (.string ⟨#[]⟩) (by simp)
      obtain ⟨w4, hw4⟩ : ∃ w4, w4 = w3.setCell ⟨go, 2, none⟩ (.string ⟨#[]⟩) := ⟨_, rfl⟩
      rw [← hw4] at hM4
      have HW4 := Lib.hid hw4
      clear hw4
      go_upto_region 19 with fail
      rw [← HW4.out]
      clear d2 d2'
      obtain ⟨e0, e1, e2, e3, e4⟩ : w4.cell? ⟨go, 0, none⟩ = some (.int .i64 (4)) ∧ w4.cell? ⟨go, 1, none⟩ = some (.int .i64 (0)) ∧ w4.cell? ⟨go, 2, none⟩ = some (.string ⟨#[]⟩) ∧ w4.cell? ⟨go, 3, none⟩ = some (.slice none 0 0) ∧ w4.cell? ⟨go, 4, none⟩ = some (.slice none 0 0) := ⟨hM4.v.cell 0, hM4.v.cell 1, hM4.v.cell 2, hM4.v.cell 3, hM4.v.cell 4⟩
      obtain ⟨x0, x1, x2, x3, x4⟩ : w4.cell? ⟨gr, 0, none⟩ = some (.int .i64 0) ∧ w4.cell? ⟨gr, 1, none⟩ = some (.int .i64 0) ∧ w4.cell? ⟨gr, 2, none⟩ = some (.string ⟨#[]⟩) ∧ w4.cell? ⟨gr, 3, none⟩ = some (.slice none 0 0) ∧ w4.cell? ⟨gr, 4, none⟩ = some (.slice none 0 0) := ⟨hM4.res.cell 0, hM4.res.cell 1, hM4.res.cell 2, hM4.res.cell 3, hM4.res.cell 4⟩
      obtain ⟨y0, y1, y2, y3, y4⟩ : w4.frozen? ⟨gr, 0, none⟩ = false ∧ w4.frozen? ⟨gr, 1, none⟩ = false ∧ w4.frozen? ⟨gr, 2, none⟩ = false ∧ w4.frozen? ⟨gr, 3, none⟩ = false ∧ w4.frozen? ⟨gr, 4, none⟩ = false := ⟨hM4.res.free 0, hM4.res.free 1, hM4.res.free 2, hM4.res.free 3, hM4.res.free 4⟩
      obtain ⟨W9, hW9⟩ : ∃ W9, W9 = (((((w4.setCell ⟨gr, 0, none⟩ (.int .i64 (4))).setCell ⟨gr, 1, none⟩ (.int .i64 (0))).setCell ⟨gr, 2, none⟩ (.string ⟨#[]⟩)).setCell ⟨gr, 3, none⟩ (.slice none 0 0)).setCell ⟨gr, 4, none⟩ (.slice none 0 0)) := ⟨_, rfl⟩
      have hC9 : Chg w4 W9 (fun k => k = gr) := by rw [hW9]; exact chg_five w4 gr (.int .i64 (4)) (.int .i64 (0)) (.string ⟨#[]⟩) (.slice none 0 0) (.slice none 0 0)
      have hZ9 : Blk W9 gr 25 #[.int .i64 (4), .int .i64 (0), .string ⟨#[]⟩, .slice none 0 0, .slice none 0 0] := by rw [hW9]; exact hM4.res.five (.int .i64 (4)) (.int .i64 (0)) (.string ⟨#[]⟩) (.slice none 0 0) (.slice none 0 0)
      obtain ⟨j0, j1, j2, j3, j4⟩ : W9.cell? ⟨gr, 0, none⟩ = some (.int .i64 (4)) ∧ W9.cell? ⟨gr, 1, none⟩ = some (.int .i64 (0)) ∧ W9.cell? ⟨gr, 2, none⟩ = some (.string ⟨#[]⟩) ∧ W9.cell? ⟨gr, 3, none⟩ = some (.slice none 0 0) ∧ W9.cell? ⟨gr, 4, none⟩ = some (.slice none 0 0) := ⟨hZ9.cell 0, hZ9.cell 1, hZ9.cell 2, hZ9.cell 3, hZ9.cell 4⟩
      have hD := MvS.done (k := (4)) (n := (0)) (s := ⟨#[]⟩) (An := none) (ns := []) (cn := 0) (Ai := none) (is := []) (ci := 0) hM4 hC9 (by omega) (by omega) (by decide) (by simp)
      have HD := Lib.hid hD
      have HW9 := Lib.hid hW9
      clear hW9 hD
      go_wp2
      rw [← HW9.out]
      exact bodyPost_ret (v := .tuple #[.agg #[.int .i64 (4), .int .i64 (0), .string ⟨#[]⟩, .slice none 0 0, .slice none 0 0], .slice none 0 0, .bool false]) (by simp [results, Tryd.results30, go_sem, j0, j1, j2, j3, j4]) rfl ⟨by rw [HE.out]; exact ⟨LV.mk (4) (0) ⟨#[]⟩ none [] 0 none [] 0, none, 0, 0, rfl⟩, HD.out.2.2⟩
    | some q =>
    obtain ⟨sx, tx⟩ := q
    obtain ⟨Ax, cx, he, hBx⟩ := hgt
    have he' : e = .returned (.tuple #[.string (strOfNums sx), .slice Ax tx.length cx, .bool true]) := he
    clear he HG
    subst he'
    have hss : (strOfNums sx).size ≤ 9223372036854775807 := by rw [strNums_size]; have h2 := getB_taken _ (Nat.le_refl _) HGB.out; have h3 : sx.length ≤ 0 := h2; omega
    have HE : Hid (X = some (.mk 4 0 (strOfNums sx) [] [], tx)) := Lib.hid (by rw [HXG.out]; rfl)
    generalize strOfNums sx = st at *
    have hM4 := hM3.cell (k' := 4) (n' := 0) (s' := st) 2 (.string st) (by simp)
    obtain ⟨w4, hw4⟩ : ∃ w4, w4 = w3.setCell ⟨go, 2, none⟩ (.string st) := ⟨_, rfl⟩
    rw [← hw4] at hM4
    have HW4 := Lib.hid hw4
    clear hw4
    go_upto_region 19 with fail
    rw [← HW4.out]
    clear d2 d2'
    obtain ⟨e0, e1, e2, e3, e4⟩ : w4.cell? ⟨go, 0, none⟩ = some (.int .i64 (4)) ∧ w4.cell? ⟨go, 1, none⟩ = some (.int .i64 (0)) ∧ w4.cell? ⟨go, 2, none⟩ = some (.string st) ∧ w4.cell? ⟨go, 3, none⟩ = some (.slice none 0 0) ∧ w4.cell? ⟨go, 4, none⟩ = some (.slice none 0 0) := ⟨hM4.v.cell 0, hM4.v.cell 1, hM4.v.cell 2, hM4.v.cell 3, hM4.v.cell 4⟩
    obtain ⟨x0, x1, x2, x3, x4⟩ : w4.cell? ⟨gr, 0, none⟩ = some (.int .i64 0) ∧ w4.cell? ⟨gr, 1, none⟩ = some (.int .i64 0) ∧ w4.cell? ⟨gr, 2, none⟩ = some (.string ⟨#[]⟩) ∧ w4.cell? ⟨gr, 3, none⟩ = some (.slice none 0 0) ∧ w4.cell? ⟨gr, 4, none⟩ = some (.slice none 0 0) := ⟨hM4.res.cell 0, hM4.res.cell 1, hM4.res.cell 2, hM4.res.cell 3, hM4.res.cell 4⟩
    obtain ⟨y0, y1, y2, y3, y4⟩ : w4.frozen? ⟨gr, 0, none⟩ = false ∧ w4.frozen? ⟨gr, 1, none⟩ = false ∧ w4.frozen? ⟨gr, 2, none⟩ = false ∧ w4.frozen? ⟨gr, 3, none⟩ = false ∧ w4.frozen? ⟨gr, 4, none⟩ = false := ⟨hM4.res.free 0, hM4.res.free 1, hM4.res.free 2, hM4.res.free 3, hM4.res.free 4⟩
    obtain ⟨W9, hW9⟩ : ∃ W9, W9 = (((((w4.setCell ⟨gr, 0, none⟩ (.int .i64 (4))).setCell ⟨gr, 1, none⟩ (.int .i64 (0))).setCell ⟨gr, 2, none⟩ (.string st)).setCell ⟨gr, 3, none⟩ (.slice none 0 0)).setCell ⟨gr, 4, none⟩ (.slice none 0 0)) := ⟨_, rfl⟩
    have hC9 : Chg w4 W9 (fun k => k = gr) := by rw [hW9]; exact chg_five w4 gr (.int .i64 (4)) (.int .i64 (0)) (.string st) (.slice none 0 0) (.slice none 0 0)
    have hZ9 : Blk W9 gr 25 #[.int .i64 (4), .int .i64 (0), .string st, .slice none 0 0, .slice none 0 0] := by rw [hW9]; exact hM4.res.five (.int .i64 (4)) (.int .i64 (0)) (.string st) (.slice none 0 0) (.slice none 0 0)
    obtain ⟨j0, j1, j2, j3, j4⟩ : W9.cell? ⟨gr, 0, none⟩ = some (.int .i64 (4)) ∧ W9.cell? ⟨gr, 1, none⟩ = some (.int .i64 (0)) ∧ W9.cell? ⟨gr, 2, none⟩ = some (.string st) ∧ W9.cell? ⟨gr, 3, none⟩ = some (.slice none 0 0) ∧ W9.cell? ⟨gr, 4, none⟩ = some (.slice none 0 0) := ⟨hZ9.cell 0, hZ9.cell 1, hZ9.cell 2, hZ9.cell 3, hZ9.cell 4⟩
    have hD := MvS.done (k := (4)) (n := (0)) (s := st) (An := none) (ns := []) (cn := 0) (Ai := none) (is := []) (ci := 0) hM4 hC9 (by omega) (by omega) hss (by simp)
    have HD := Lib.hid hD
    have HW9 := Lib.hid hW9
    clear hW9 hD
    go_wp2
    rw [← HW9.out]
    exact bodyPost_ret (v := .tuple #[.agg #[.int .i64 (4), .int .i64 (0), .string st, .slice none 0 0, .slice none 0 0], .slice Ax tx.length cx, .bool true]) (by simp [results, Tryd.results30, go_sem, j0, j1, j2, j3, j4]) rfl ⟨by rw [HE.out]; exact ⟨LV.mk (4) (0) st none [] 0 none [] 0, Ax, cx, rfl, HD.out.1, HD.out.2.1, leaf_j _ _ _, hBx⟩, HD.out.2.2⟩
  have hbr := hcut
  have hrn : r.length = n - 1 := by have := HRN.out; omega
  have HRL := Lib.hid hrn
  clear hrn
  go_upto_region 5 with fail
  obtain ⟨G, hG⟩ : ∃ G, getB r = G := ⟨_, rfl⟩
  have HXG : Hid (X = strJ G) := Lib.hid (by rw [← HXX.out, ← hG]; exact valG_strJ)
  have HG : Hid (Calls Tryd.prog 48 #[.slice (some ⟨bb, off + 1, none⟩) (n - 1) (c - 1)] W2 fun e w' => GetTIs wh G e ∧ Below W2.heap.size W2 w') := Lib.hid (by have h := getT_any wh (some ⟨bb, off + 1, none⟩) (c - 1) r W2 hbr hbh (by have := HRL.out; omega); rw [hG, HRL.out] at h; exact h)
  have HGB := Lib.hid hG
  clear hG
  go_wp2_with fail
  refine HG.out.mono ?_
  rintro e w3 ⟨hgt, hb3⟩
  have hM3 := hM2.below hb3
  clear d0
  have d2 : w3.cell? ⟨go, 2, none⟩ = some (.string ⟨#[]⟩) := hM3.v.cell 2
  have d2' := hM3.v.free 2
  cases G with
  | none =>
    have HE : Hid (X = none) := Lib.hid (by rw [HXG.out]; rfl)
    have hgt' : e = .returned (.tuple #[.string ⟨#[]⟩, .slice none 0 0, .bool false]) := hgt
    clear hgt HG
    subst hgt'
    have hM4 := hM3.cell (k' := 4) (n' := 0) (s' := ⟨#[]⟩) 2 (.string ⟨#[]⟩) (by simp)
    obtain ⟨w4, hw4⟩ : ∃ w4, w4 = w3.setCell ⟨go, 2, none⟩ (.string ⟨#[]⟩) := ⟨_, rfl⟩
    rw [← hw4] at hM4
    have HW4 := Lib.hid hw4
    clear hw4
    go_upto_region 19 with fail
    rw [← HW4.out]
    clear d2 d2'
    obtain ⟨e0, e1, e2, e3, e4⟩ : w4.cell? ⟨go, 0, none⟩ = some (.int .i64 (4)) ∧ w4.cell? ⟨go, 1, none⟩ = some (.int .i64 (0)) ∧ w4.cell? ⟨go, 2, none⟩ = some (.string ⟨#[]⟩) ∧ w4.cell? ⟨go, 3, none⟩ = some (.slice none 0 0) ∧ w4.cell? ⟨go, 4, none⟩ = some (.slice none 0 0) := ⟨hM4.v.cell 0, hM4.v.cell 1, hM4.v.cell 2, hM4.v.cell 3, hM4.v.cell 4⟩
    obtain ⟨x0, x1, x2, x3, x4⟩ : w4.cell? ⟨gr, 0, none⟩ = some (.int .i64 0) ∧ w4.cell? ⟨gr, 1, none⟩ = some (.int .i64 0) ∧ w4.cell? ⟨gr, 2, none⟩ = some (.string ⟨#[]⟩) ∧ w4.cell? ⟨gr, 3, none⟩ = some (.slice none 0 0) ∧ w4.cell? ⟨gr, 4, none⟩ = some (.slice none 0 0) := ⟨hM4.res.cell 0, hM4.res.cell 1, hM4.res.cell 2, hM4.res.cell 3, hM4.res.cell 4⟩
    obtain ⟨y0, y1, y2, y3, y4⟩ : w4.frozen? ⟨gr, 0, none⟩ = false ∧ w4.frozen? ⟨gr, 1, none⟩ = false ∧ w4.frozen? ⟨gr, 2, none⟩ = false ∧ w4.frozen? ⟨gr, 3, none⟩ = false ∧ w4.frozen? ⟨gr, 4, none⟩ = false := ⟨hM4.res.free 0, hM4.res.free 1, hM4.res.free 2, hM4.res.free 3, hM4.res.free 4⟩
    obtain ⟨W9, hW9⟩ : ∃ W9, W9 = (((((w4.setCell ⟨gr, 0, none⟩ (.int .i64 (4))).setCell ⟨gr, 1, none⟩ (.int .i64 (0))).setCell ⟨gr, 2, none⟩ (.string ⟨#[]⟩)).setCell ⟨gr, 3, none⟩ (.slice none 0 0)).setCell ⟨gr, 4, none⟩ (.slice none 0 0)) := ⟨_, rfl⟩
    have hC9 : Chg w4 W9 (fun k => k = gr) := by rw [hW9]; exact chg_five w4 gr (.int .i64 (4)) (.int .i64 (0)) (.string ⟨#[]⟩) (.slice none 0 0) (.slice none 0 0)
    have hZ9 : Blk W9 gr 25 #[.int .i64 (4), .int .i64 (0), .string ⟨#[]⟩, .slice none 0 0, .slice none 0 0] := by rw [hW9]; exact hM4.res.five (.int .i64 (4)) (.int .i64 (0)) (.string ⟨#[]⟩) (.slice none 0 0) (.slice none 0 0)
    obtain ⟨j0, j1, j2, j3, j4⟩ : W9.cell? ⟨gr, 0, none⟩ = some (.int .i64 (4)) ∧ W9.cell? ⟨gr, 1, none⟩ = some (.int .i64 (0)) ∧ W9.cell? ⟨gr, 2, none⟩ = some (.string ⟨#[]⟩) ∧ W9.cell? ⟨gr, 3, none⟩ = some (.slice none 0 0) ∧ W9.cell? ⟨gr, 4, none⟩ = some (.slice none 0 0) := ⟨hZ9.cell 0, hZ9.cell 1, hZ9.cell 2, hZ9.cell 3, hZ9.cell 4⟩
    have hD := MvS.done (k := (4)) (n := (0)) (s := ⟨#[]⟩) (An := none) (ns := []) (cn := 0) (Ai := none) (is := []) (ci := 0) hM4 hC9 (by omega) (by omega) (by decide) (by simp)
    have HD := Lib.hid hD
    have HW9 := Lib.hid hW9
    clear hW9 hD
    go_wp2
    rw [← HW9.out]
    exact bodyPost_ret (v := .tuple #[.agg #[.int .i64 (4), .int .i64 (0), .string ⟨#[]⟩, .slice none 0 0, .slice none 0 0], .slice none 0 0, .bool false]) (by simp [results, Tryd.results30, go_sem, j0, j1, j2, j3, j4]) rfl ⟨by rw [HE.out]; exact ⟨LV.mk (4) (0) ⟨#[]⟩ none [] 0 none [] 0, none, 0, 0, rfl⟩, HD.out.2.2⟩
  | some q =>
  obtain ⟨sx, tx⟩ := q
  obtain ⟨Ax, cx, he, hBx⟩ := hgt
  have he' : e = .returned (.tuple #[.string (strOfNums sx), .slice Ax tx.length cx, .bool true]) := he
  clear he HG
  subst he'
  have hss : (strOfNums sx).size ≤ 9223372036854775807 := by rw [strNums_size]; have h2 := getB_taken _ (Nat.le_refl _) HGB.out; have := HRL.out; omega
  have HE : Hid (X = some (.mk 4 0 (strOfNums sx) [] [], tx)) := Lib.hid (by rw [HXG.out]; rfl)
  generalize strOfNums sx = st at *
  have hM4 := hM3.cell (k' := 4) (n' := 0) (s' := st) 2 (.string st) (by simp)
  obtain ⟨w4, hw4⟩ : ∃ w4, w4 = w3.setCell ⟨go, 2, none⟩ (.string st) := ⟨_, rfl⟩
  rw [← hw4] at hM4
  have HW4 := Lib.hid hw4
  clear hw4
  go_upto_region 19 with fail
  rw [← HW4.out]
  clear d2 d2'
  obtain ⟨e0, e1, e2, e3, e4⟩ : w4.cell? ⟨go, 0, none⟩ = some (.int .i64 (4)) ∧ w4.cell? ⟨go, 1, none⟩ = some (.int .i64 (0)) ∧ w4.cell? ⟨go, 2, none⟩ = some (.string st) ∧ w4.cell? ⟨go, 3, none⟩ = some (.slice none 0 0) ∧ w4.cell? ⟨go, 4, none⟩ = some (.slice none 0 0) := ⟨hM4.v.cell 0, hM4.v.cell 1, hM4.v.cell 2, hM4.v.cell 3, hM4.v.cell 4⟩
  obtain ⟨x0, x1, x2, x3, x4⟩ : w4.cell? ⟨gr, 0, none⟩ = some (.int .i64 0) ∧ w4.cell? ⟨gr, 1, none⟩ = some (.int .i64 0) ∧ w4.cell? ⟨gr, 2, none⟩ = some (.string ⟨#[]⟩) ∧ w4.cell? ⟨gr, 3, none⟩ = some (.slice none 0 0) ∧ w4.cell? ⟨gr, 4, none⟩ = some (.slice none 0 0) := ⟨hM4.res.cell 0, hM4.res.cell 1, hM4.res.cell 2, hM4.res.cell 3, hM4.res.cell 4⟩
  obtain ⟨y0, y1, y2, y3, y4⟩ : w4.frozen? ⟨gr, 0, none⟩ = false ∧ w4.frozen? ⟨gr, 1, none⟩ = false ∧ w4.frozen? ⟨gr, 2, none⟩ = false ∧ w4.frozen? ⟨gr, 3, none⟩ = false ∧ w4.frozen? ⟨gr, 4, none⟩ = false := ⟨hM4.res.free 0, hM4.res.free 1, hM4.res.free 2, hM4.res.free 3, hM4.res.free 4⟩
  obtain ⟨W9, hW9⟩ : ∃ W9, W9 = (((((w4.setCell ⟨gr, 0, none⟩ (.int .i64 (4))).setCell ⟨gr, 1, none⟩ (.int .i64 (0))).setCell ⟨gr, 2, none⟩ (.string st)).setCell ⟨gr, 3, none⟩ (.slice none 0 0)).setCell ⟨gr, 4, none⟩ (.slice none 0 0)) := ⟨_, rfl⟩
  have hC9 : Chg w4 W9 (fun k => k = gr) := by rw [hW9]; exact chg_five w4 gr (.int .i64 (4)) (.int .i64 (0)) (.string st) (.slice none 0 0) (.slice none 0 0)
  have hZ9 : Blk W9 gr 25 #[.int .i64 (4), .int .i64 (0), .string st, .slice none 0 0, .slice none 0 0] := by rw [hW9]; exact hM4.res.five (.int .i64 (4)) (.int .i64 (0)) (.string st) (.slice none 0 0) (.slice none 0 0)
  obtain ⟨j0, j1, j2, j3, j4⟩ : W9.cell? ⟨gr, 0, none⟩ = some (.int .i64 (4)) ∧ W9.cell? ⟨gr, 1, none⟩ = some (.int .i64 (0)) ∧ W9.cell? ⟨gr, 2, none⟩ = some (.string st) ∧ W9.cell? ⟨gr, 3, none⟩ = some (.slice none 0 0) ∧ W9.cell? ⟨gr, 4, none⟩ = some (.slice none 0 0) := ⟨hZ9.cell 0, hZ9.cell 1, hZ9.cell 2, hZ9.cell 3, hZ9.cell 4⟩
  have hD := MvS.done (k := (4)) (n := (0)) (s := st) (An := none) (ns := []) (cn := 0) (Ai := none) (is := []) (ci := 0) hM4 hC9 (by omega) (by omega) hss (by simp)
  have HD := Lib.hid hD
  have HW9 := Lib.hid hW9
  clear hW9 hD
  go_wp2
  rw [← HW9.out]
  exact bodyPost_ret (v := .tuple #[.agg #[.int .i64 (4), .int .i64 (0), .string st, .slice none 0 0, .slice none 0 0], .slice Ax tx.length cx, .bool true]) (by simp [results, Tryd.results30, go_sem, j0, j1, j2, j3, j4]) rfl ⟨by rw [HE.out]; exact ⟨LV.mk (4) (0) st none [] 0 none [] 0, Ax, cx, rfl, HD.out.1, HD.out.2.1, leaf_j _ _ _, hBx⟩, HD.out.2.2⟩
set_option maxHeartbeats 8000000 in
theorem rv_row6 (wh : World) (l : Nat) (A : Option Addr) (c : Nat) (r : List Int) (w : World) (hB : BRow wh A c (6 :: r)) (h0 : Below wh.heap.size wh w) (hl : r.length + 1 ≤ 10000000000000) (hl6 : l ≤ 100) (IH : ∀ A c b w, BRow wh A c b → Below wh.heap.size wh w → b.length ≤ 10000000000000 → Calls Tryd.prog 30 #[.slice A b.length c, .int .i64 l] w fun e w' => RvIs wh w (valG false l b) e w' ∧ Below w.heap.size w w') :
    Calls Tryd.prog 30 #[.slice A (r.length + 1) c, .int .i64 ((l : Int) + 1)] w fun e w' => RvIs wh w (valG false (l + 1) (6 :: r)) e w' ∧ Below w.heap.size w w' := by
  obtain ⟨X, hX⟩ : ∃ X, valG false (l + 1) (6 :: r) = X := ⟨_, rfl⟩
  rw [hX]
  have HXX := Lib.hid hX
  obtain ⟨bb, off, rfl, hbb, hcell0⟩ := hB.cells.u8 (l := 6 :: r) (k := 0) (by simp)
  have hcc := hB.len
  have hcm := hB.cap
  have hcut := hB.cut
  simp only [List.length_cons] at hcc
  obtain ⟨n, hn⟩ : ∃ n, r.length + 1 = n := ⟨_, rfl⟩
  rw [hn] at hcc hl ⊢
  have HRN := Lib.hid hn
  have hn0 : (0 : Int) < (n : Int) := by omega
  have hn1 : (1 : Int) ≤ (n : Int) := by omega
  have hnz : ((n : Int) == 0) = false := by rw [beq_eq_false_iff_ne]; omega
  have hlz : ((l : Int) + 1 == 0) = false := by rw [beq_eq_false_iff_ne]; omega
  have hng : 1 ≤ n := by omega
  clear hn hX
  obtain ⟨W, hW⟩ : ∃ W, W = w.alloc (.cells zeroBlk 25) := ⟨_, rfl⟩
  obtain ⟨gr, hgr⟩ : ∃ g, w.heap.size = g := ⟨_, rfl⟩
  obtain ⟨go, hgo⟩ : ∃ g, gr + 1 = g := ⟨_, rfl⟩
  have hWs : W.heap.size = go := by rw [hW, World.size_alloc]; omega
  obtain ⟨W2, hW2⟩ : ∃ W2, W2 = W.alloc (.cells #[.int .i64 (5), .int .i64 0, .string ⟨#[]⟩, .slice none 0 0, .slice none 0 0] 25) := ⟨_, rfl⟩
  have hM2 : MvS w W2 gr go (gr + 2) (5) 0 ⟨#[]⟩ (.slice none 0 0) (.slice none 0 0) [] [] := MvS.fresh (by rw [hW2, hW, ← hgr]; exact (Blk.new w _ _).alloc _) (by rw [hW2, ← hWs]; exact Blk.new W _ _) (by rw [hW2, World.size_alloc]; omega) (by omega) (by omega) (by omega) (by omega) (by omega) (by rw [hW2, hW]; exact ((Below.refl _ _).alloc (Nat.le_refl _) _).alloc (by simp) _)
  have hbhW : Below wh.heap.size wh W := h0.trans (by rw [hW]; exact (Below.refl _ _).alloc h0.size _)
  have e0 : W.cell? ⟨bb, off, none⟩ = some (.int .u8 6) := (hbhW.cell (p := ⟨bb, off, none⟩) hbb).trans (by simpa using hcell0)
  have HW := Lib.hid hW
  have HW2 := Lib.hid hW2
  have HGR := Lib.hid hgr
  have HGO := Lib.hid hgo
  have HWS := Lib.hid hWs
  clear hW hW2 hcell0 hB hbhW
  go_enter Tryd.func30, Tryd.ntmps30
  go_upto_region 1 with fail
  first | rw [← HW.out, hgr] | rw [← HW.out]
  go_upto_region 4 with fail
  first | rw [← HW2.out, hWs] | rw [← HW2.out]
  clear hgr hgo hWs e0
  have d0 : W2.cell? ⟨go, 0, none⟩ = some (.int .i64 (5)) := hM2.v.cell 0
  have hbh : Below wh.heap.size wh W2 := h0.trans (hM2.b.mono h0.size)
  by_cases hc1 : c = 1
  · have hn1' : n = 1 := by omega
    have hr0 : r = [] := List.eq_nil_of_length_eq_zero (by have := HRN.out; omega)
    subst hc1 hn1' hr0
    have hbr : BRow wh (some ⟨bb, off, none⟩) 0 [] := BRow.none
    go_upto_region 5 with fail
    have hxr : rowJ 5 (memG false (valG false l) false 25 []) = X := by rw [← HXX.out, valG_rowJ (by omega)]; rfl
    have HC : Hid (Calls Tryd.prog 49 #[.agg #[.int .i64 5, .int .i64 0, .string ⟨#[]⟩, .slice none 0 0, .slice none 0 0], .slice (some ⟨bb, off, none⟩) 0 0, .int .i64 ((l : Int) + 1)] W2 fun e w' => RvIs wh W2 X e w' ∧ Below W2.heap.size W2 w') := Lib.hid (by have h := members5 wh l (some ⟨bb, off, none⟩) 0 [] W2 hbr hbh (by simp) hl6 IH; rw [hxr] at h; exact h)
    clear hxr
    obtain ⟨d1, d2, d3, d4⟩ : W2.cell? ⟨go, 1, none⟩ = some (.int .i64 0) ∧ W2.cell? ⟨go, 2, none⟩ = some (.string ⟨#[]⟩) ∧ W2.cell? ⟨go, 3, none⟩ = some (.slice none 0 0) ∧ W2.cell? ⟨go, 4, none⟩ = some (.slice none 0 0) := ⟨hM2.v.cell 1, hM2.v.cell 2, hM2.v.cell 3, hM2.v.cell 4⟩
    go_wp2_with fail
    refine HC.out.mono ?_
    rintro e w3 ⟨hrv, hb3⟩
    have hM3 := hM2.below hb3
    clear d0 d1 d2 d3 d4 HC
    cases X with
    | none =>
      obtain ⟨z, Az, nz', cz', he⟩ := hrv
      obtain ⟨kz, nz, sz, Anz, nsz, cnz, Aiz, isz, ciz⟩ := z
      have he' : e = .returned (.tuple #[.agg #[.int .i64 kz, .int .i64 nz, .string sz, .slice Anz nsz.length cnz, .slice Aiz isz.length ciz], .slice Az nz' cz', .bool false]) := he
      clear he
      subst he'
      obtain ⟨x0, x1, x2, x3, x4⟩ : w3.cell? ⟨gr, 0, none⟩ = some (.int .i64 0) ∧ w3.cell? ⟨gr, 1, none⟩ = some (.int .i64 0) ∧ w3.cell? ⟨gr, 2, none⟩ = some (.string ⟨#[]⟩) ∧ w3.cell? ⟨gr, 3, none⟩ = some (.slice none 0 0) ∧ w3.cell? ⟨gr, 4, none⟩ = some (.slice none 0 0) := ⟨hM3.res.cell 0, hM3.res.cell 1, hM3.res.cell 2, hM3.res.cell 3, hM3.res.cell 4⟩
      obtain ⟨y0, y1, y2, y3, y4⟩ : w3.frozen? ⟨gr, 0, none⟩ = false ∧ w3.frozen? ⟨gr, 1, none⟩ = false ∧ w3.frozen? ⟨gr, 2, none⟩ = false ∧ w3.frozen? ⟨gr, 3, none⟩ = false ∧ w3.frozen? ⟨gr, 4, none⟩ = false := ⟨hM3.res.free 0, hM3.res.free 1, hM3.res.free 2, hM3.res.free 3, hM3.res.free 4⟩
      obtain ⟨W9, hW9⟩ : ∃ W9, W9 = (((((w3.setCell ⟨gr, 0, none⟩ (.int .i64 kz)).setCell ⟨gr, 1, none⟩ (.int .i64 nz)).setCell ⟨gr, 2, none⟩ (.string sz)).setCell ⟨gr, 3, none⟩ (.slice Anz nsz.length cnz)).setCell ⟨gr, 4, none⟩ (.slice Aiz isz.length ciz)) := ⟨_, rfl⟩
      have hC9 : Chg w3 W9 (fun k => k = gr) := by rw [hW9]; exact chg_five w3 gr (.int .i64 kz) (.int .i64 nz) (.string sz) (.slice Anz nsz.length cnz) (.slice Aiz isz.length ciz)
      have hZ9 : Blk W9 gr 25 #[.int .i64 kz, .int .i64 nz, .string sz, .slice Anz nsz.length cnz, .slice Aiz isz.length ciz] := by rw [hW9]; exact hM3.res.five (.int .i64 kz) (.int .i64 nz) (.string sz) (.slice Anz nsz.length cnz) (.slice Aiz isz.length ciz)
      obtain ⟨j0, j1, j2, j3, j4⟩ : W9.cell? ⟨gr, 0, none⟩ = some (.int .i64 kz) ∧ W9.cell? ⟨gr, 1, none⟩ = some (.int .i64 nz) ∧ W9.cell? ⟨gr, 2, none⟩ = some (.string sz) ∧ W9.cell? ⟨gr, 3, none⟩ = some (.slice Anz nsz.length cnz) ∧ W9.cell? ⟨gr, 4, none⟩ = some (.slice Aiz isz.length ciz) := ⟨hZ9.cell 0, hZ9.cell 1, hZ9.cell 2, hZ9.cell 3, hZ9.cell 4⟩
      have HBF : Hid (Below w.heap.size w W9) := Lib.hid (hM3.b.trans (hC9.below hM3.b.size fun i hi => by have := hM3.lr; omega))
      have HC9 := Lib.hid hC9
      have HW9 := Lib.hid hW9
      clear hW9 hC9
      go_wp2
      rw [← HW9.out]
      exact bodyPost_ret (v := .tuple #[.agg #[.int .i64 kz, .int .i64 nz, .string sz, .slice Anz nsz.length cnz, .slice Aiz isz.length ciz], .slice Az nz' cz', .bool false]) (by simp [results, Tryd.results30, go_sem, j0, j1, j2, j3, j4]) rfl ⟨⟨(LV.mk kz nz sz Anz nsz cnz Aiz isz ciz), Az, nz', cz', rfl⟩, HBF.out⟩
    | some q =>
    obtain ⟨jq, tq⟩ := q
    obtain ⟨z, Az, cz', he, hz1, hz2, hzj, hBz⟩ := hrv
    obtain ⟨kz, nz, sz, Anz, nsz, cnz, Aiz, isz, ciz⟩ := z
    have he' : e = .returned (.tuple #[.agg #[.int .i64 kz, .int .i64 nz, .string sz, .slice Anz nsz.length cnz, .slice Aiz isz.length ciz], .slice Az tq.length cz', .bool true]) := he
    clear he
    subst he'
    have HZJ := Lib.hid hzj
    clear hzj
    have hW2s := hM2.lt
    obtain ⟨x0, x1, x2, x3, x4⟩ : w3.cell? ⟨gr, 0, none⟩ = some (.int .i64 0) ∧ w3.cell? ⟨gr, 1, none⟩ = some (.int .i64 0) ∧ w3.cell? ⟨gr, 2, none⟩ = some (.string ⟨#[]⟩) ∧ w3.cell? ⟨gr, 3, none⟩ = some (.slice none 0 0) ∧ w3.cell? ⟨gr, 4, none⟩ = some (.slice none 0 0) := ⟨hM3.res.cell 0, hM3.res.cell 1, hM3.res.cell 2, hM3.res.cell 3, hM3.res.cell 4⟩
    obtain ⟨y0, y1, y2, y3, y4⟩ : w3.frozen? ⟨gr, 0, none⟩ = false ∧ w3.frozen? ⟨gr, 1, none⟩ = false ∧ w3.frozen? ⟨gr, 2, none⟩ = false ∧ w3.frozen? ⟨gr, 3, none⟩ = false ∧ w3.frozen? ⟨gr, 4, none⟩ = false := ⟨hM3.res.free 0, hM3.res.free 1, hM3.res.free 2, hM3.res.free 3, hM3.res.free 4⟩
    obtain ⟨W9, hW9⟩ : ∃ W9, W9 = (((((w3.setCell ⟨gr, 0, none⟩ (.int .i64 kz)).setCell ⟨gr, 1, none⟩ (.int .i64 nz)).setCell ⟨gr, 2, none⟩ (.string sz)).setCell ⟨gr, 3, none⟩ (.slice Anz nsz.length cnz)).setCell ⟨gr, 4, none⟩ (.slice Aiz isz.length ciz)) := ⟨_, rfl⟩
    have hC9 : Chg w3 W9 (fun k => k = gr) := by rw [hW9]; exact chg_five w3 gr (.int .i64 kz) (.int .i64 nz) (.string sz) (.slice Anz nsz.length cnz) (.slice Aiz isz.length ciz)
    have hZ9 : Blk W9 gr 25 #[.int .i64 kz, .int .i64 nz, .string sz, .slice Anz nsz.length cnz, .slice Aiz isz.length ciz] := by rw [hW9]; exact hM3.res.five (.int .i64 kz) (.int .i64 nz) (.string sz) (.slice Anz nsz.length cnz) (.slice Aiz isz.length ciz)
    obtain ⟨j0, j1, j2, j3, j4⟩ : W9.cell? ⟨gr, 0, none⟩ = some (.int .i64 kz) ∧ W9.cell? ⟨gr, 1, none⟩ = some (.int .i64 nz) ∧ W9.cell? ⟨gr, 2, none⟩ = some (.string sz) ∧ W9.cell? ⟨gr, 3, none⟩ = some (.slice Anz nsz.length cnz) ∧ W9.cell? ⟨gr, 4, none⟩ = some (.slice Aiz isz.length ciz) := ⟨hZ9.cell 0, hZ9.cell 1, hZ9.cell 2, hZ9.cell 3, hZ9.cell 4⟩
    have HBF : Hid (Below w.heap.size w W9) := Lib.hid (hM3.b.trans (hC9.below hM3.b.size fun i hi => by have := hM3.lr; omega))
    have HC9 := Lib.hid hC9
    have HW9 := Lib.hid hW9
    clear hW9 hC9
    go_wp2
    rw [← HW9.out]
    exact bodyPost_ret (v := .tuple #[.agg #[.int .i64 kz, .int .i64 nz, .string sz, .slice Anz nsz.length cnz, .slice Aiz isz.length ciz], .slice Az tq.length cz', .bool true]) (by simp [results, Tryd.results30, go_sem, j0, j1, j2, j3, j4]) rfl ⟨⟨(LV.mk kz nz sz Anz nsz cnz Aiz isz ciz), Az, cz', rfl, LV.At.move (S := fun k => W2.heap.size ≤ k) (fun k hk hl => HC9.out.block k hl (by have := hM2.hr; omega)) HC9.out.size _ hz1 hz2, LV.On.mono (fun k hk => Nat.le_trans hM2.b.size hk) _ hz2, HZJ.out, hBz⟩, HBF.out⟩
  have hbr := hcut
  have hrn : r.length = n - 1 := by have := HRN.out; omega
  have HRL := Lib.hid hrn
  clear hrn
  go_upto_region 5 with fail
  have hxr : rowJ 5 (memG false (valG false l) false 25 r) = X := by rw [← HXX.out, valG_rowJ (by omega)]; rfl
  have HC : Hid (Calls Tryd.prog 49 #[.agg #[.int .i64 5, .int .i64 0, .string ⟨#[]⟩, .slice none 0 0, .slice none 0 0], .slice (some ⟨bb, off + 1, none⟩) (n - 1) (c - 1), .int .i64 ((l : Int) + 1)] W2 fun e w' => RvIs wh W2 X e w' ∧ Below W2.heap.size W2 w') := Lib.hid (by have h := members5 wh l (some ⟨bb, off + 1, none⟩) (c - 1) r W2 hbr hbh (by have := HRL.out; omega) hl6 IH; rw [hxr, HRL.out] at h; exact h)
  clear hxr
  obtain ⟨d1, d2, d3, d4⟩ : W2.cell? ⟨go, 1, none⟩ = some (.int .i64 0) ∧ W2.cell? ⟨go, 2, none⟩ = some (.string ⟨#[]⟩) ∧ W2.cell? ⟨go, 3, none⟩ = some (.slice none 0 0) ∧ W2.cell? ⟨go, 4, none⟩ = some (.slice none 0 0) := ⟨hM2.v.cell 1, hM2.v.cell 2, hM2.v.cell 3, hM2.v.cell 4⟩
  go_wp2_with fail
  refine HC.out.mono ?_
  rintro e w3 ⟨hrv, hb3⟩
  have hM3 := hM2.below hb3
  clear d0 d1 d2 d3 d4 HC
  cases X with
  | none =>
    obtain ⟨z, Az, nz', cz', he⟩ := hrv
    obtain ⟨kz, nz, sz, Anz, nsz, cnz, Aiz, isz, ciz⟩ := z
    have he' : e = .returned (.tuple #[.agg #[.int .i64 kz, .int .i64 nz, .string sz, .slice Anz nsz.length cnz, .slice Aiz isz.length ciz], .slice Az nz' cz', .bool false]) := he
    clear he
    subst he'
    obtain ⟨x0, x1, x2, x3, x4⟩ : w3.cell? ⟨gr, 0, none⟩ = some (.int .i64 0) ∧ w3.cell? ⟨gr, 1, none⟩ = some (.int .i64 0) ∧ w3.cell? ⟨gr, 2, none⟩ = some (.string ⟨#[]⟩) ∧ w3.cell? ⟨gr, 3, none⟩ = some (.slice none 0 0) ∧ w3.cell? ⟨gr, 4, none⟩ = some (.slice none 0 0) := ⟨hM3.res.cell 0, hM3.res.cell 1, hM3.res.cell 2, hM3.res.cell 3, hM3.res.cell 4⟩
    obtain ⟨y0, y1, y2, y3, y4⟩ : w3.frozen? ⟨gr, 0, none⟩ = false ∧ w3.frozen? ⟨gr, 1, none⟩ = false ∧ w3.frozen? ⟨gr, 2, none⟩ = false ∧ w3.frozen? ⟨gr, 3, none⟩ = false ∧ w3.frozen? ⟨gr, 4, none⟩ = false := ⟨hM3.res.free 0, hM3.res.free 1, hM3.res.free 2, hM3.res.free 3, hM3.res.free 4⟩
    obtain ⟨W9, hW9⟩ : ∃ W9, W9 = (((((w3.setCell ⟨gr, 0, none⟩ (.int .i64 kz)).setCell ⟨gr, 1, none⟩ (.int .i64 nz)).setCell ⟨gr, 2, none⟩ (.string sz)).setCell ⟨gr, 3, none⟩ (.slice Anz nsz.length cnz)).setCell ⟨gr, 4, none⟩ (.slice Aiz isz.length ciz)) := ⟨_, rfl⟩
    have hC9 : Chg w3 W9 (fun k => k = gr) := by rw [hW9]; exact chg_five w3 gr (.int .i64 kz) (.int .i64 nz) (.string sz) (.slice Anz nsz.length cnz) (.slice Aiz isz.length ciz)
    have hZ9 : Blk W9 gr 25 #[.int .i64 kz, .int .i64 nz, .string sz, .slice Anz nsz.length cnz, .slice Aiz isz.length ciz] := by rw [hW9]; exact hM3.res.five (.int .i64 kz) (.int .i64 nz) (.string sz) (.slice Anz nsz.length cnz) (.slice Aiz isz.length ciz)
    obtain ⟨j0, j1, j2, j3, j4⟩ : W9.cell? ⟨gr, 0, none⟩ = some (.int .i64 kz) ∧ W9.cell? ⟨gr, 1, none⟩ = some (.int .i64 nz) ∧ W9.cell? ⟨gr, 2, none⟩ = some (.string sz) ∧ W9.cell? ⟨gr, 3, none⟩ = some (.slice Anz nsz.length cnz) ∧ W9.cell? ⟨gr, 4, none⟩ = some (.slice Aiz isz.length ciz) := ⟨hZ9.cell 0, hZ9.cell 1, hZ9.cell 2, hZ9.cell 3, hZ9.cell 4⟩
    have HBF : Hid (Below w.heap.size w W9) := Lib.hid (hM3.b.trans (hC9.below hM3.b.size fun i hi => by have := hM3.lr; omega))
    have HC9 := Lib.hid hC9
    have HW9 := Lib.hid hW9
    clear hW9 hC9
    go_wp2
    rw [← HW9.out]
    exact bodyPost_ret (v := .tuple #[.agg #[.int .i64 kz, .int .i64 nz, .string sz, .slice Anz nsz.length cnz, .slice Aiz isz.length ciz], .slice Az nz' cz', .bool false]) (by simp [results, Tryd.results30, go_sem, j0, j1, j2, j3, j4]) rfl ⟨⟨(LV.mk kz nz sz Anz nsz cnz Aiz isz ciz), Az, nz', cz', rfl⟩, HBF.out⟩
  | some q =>
  obtain ⟨jq, tq⟩ := q
  obtain ⟨z, Az, cz', he, hz1, hz2, hzj, hBz⟩ := hrv
  obtain ⟨kz, nz, sz, Anz, nsz, cnz, Aiz, isz, ciz⟩ := z
  have he' : e = .returned (.tuple #[.agg #[.int .i64 kz, .int .i64 nz, .string sz, .slice Anz nsz.length cnz, .slice Aiz isz.length ciz], .slice Az tq.length cz', .bool true]) := he
  clear he
  subst he'
  have HZJ := Lib.hid hzj
  clear hzj
  have hW2s := hM2.lt
  obtain ⟨x0, x1, x2, x3, x4⟩ : w3.cell? ⟨gr, 0, none⟩ = some (.int .i64 0) ∧ w3.cell? ⟨gr, 1, none⟩ = some (.int .i64 0) ∧ w3.cell? ⟨gr, 2, none⟩ = some (.string ⟨#[]⟩) ∧ w3.cell? ⟨gr, 3, none⟩ = some (.slice none 0 0) ∧ w3.cell? ⟨gr, 4, none⟩ = some (.slice none 0 0) := ⟨hM3.res.cell 0, hM3.res.cell 1, hM3.res.cell 2, hM3.res.cell 3, hM3.res.cell 4⟩
  obtain ⟨y0, y1, y2, y3, y4⟩ : w3.frozen? ⟨gr, 0, none⟩ = false ∧ w3.frozen? ⟨gr, 1, none⟩ = false ∧ w3.frozen? ⟨gr, 2, none⟩ = false ∧ w3.frozen? ⟨gr, 3, none⟩ = false ∧ w3.frozen? ⟨gr, 4, none⟩ = false := ⟨hM3.res.free 0, hM3.res.free 1, hM3.res.free 2, hM3.res.free 3, hM3.res.free 4⟩
  obtain ⟨W9, hW9⟩ : ∃ W9, W9 = (((((w3.setCell ⟨gr, 0, none⟩ (.int .i64 kz)).setCell ⟨gr, 1, none⟩ (.int .i64 nz)).setCell ⟨gr, 2, none⟩ (.string sz)).setCell ⟨gr, 3, none⟩ (.slice Anz nsz.length cnz)).setCell ⟨gr, 4, none⟩ (.slice Aiz isz.length ciz)) := ⟨_, rfl⟩
  have hC9 : Chg w3 W9 (fun k => k = gr) := by rw [hW9]; exact chg_five w3 gr (.int .i64 kz) (.int .i64 nz) (.string sz) (.slice Anz nsz.length cnz) (.slice Aiz isz.length ciz)
  have hZ9 : Blk W9 gr 25 #[.int .i64 kz, .int .i64 nz, .string sz, .slice Anz nsz.length cnz, .slice Aiz isz.length ciz] := by rw [hW9]; exact hM3.res.five (.int .i64 kz) (.int .i64 nz) (.string sz) (.slice Anz nsz.length cnz) (.slice Aiz isz.length ciz)
  obtain ⟨j0, j1, j2, j3, j4⟩ : W9.cell? ⟨gr, 0, none⟩ = some (.int .i64 kz) ∧ W9.cell? ⟨gr, 1, none⟩ = some (.int .i64 nz) ∧ W9.cell? ⟨gr, 2, none⟩ = some (.string sz) ∧ W9.cell? ⟨gr, 3, none⟩ = some (.slice Anz nsz.length cnz) ∧ W9.cell? ⟨gr, 4, none⟩ = some (.slice Aiz isz.length ciz) := ⟨hZ9.cell 0, hZ9.cell 1, hZ9.cell 2, hZ9.cell 3, hZ9.cell 4⟩
  have HBF : Hid (Below w.heap.size w W9) := Lib.hid (hM3.b.trans (hC9.below hM3.b.size fun i hi => by have := hM3.lr; omega))
  have HC9 := Lib.hid hC9
  have HW9 := Lib.hid hW9
  clear hW9 hC9
  go_wp2
  rw [← HW9.out]
  exact bodyPost_ret (v := .tuple #[.agg #[.int .i64 kz, .int .i64 nz, .string sz, .slice Anz nsz.length cnz, .slice Aiz isz.length ciz], .slice Az tq.length cz', .bool true]) (by simp [results, Tryd.results30, go_sem, j0, j1, j2, j3, j4]) rfl ⟨⟨(LV.mk kz nz sz Anz nsz cnz Aiz isz ciz), Az, cz', rfl, LV.At.move (S := fun k => W2.heap.size ≤ k) (fun k hk hl => HC9.out.block k hl (by have := hM2.hr; omega)) HC9.out.size _ hz1 hz2, LV.On.mono (fun k hk => Nat.le_trans hM2.b.size hk) _ hz2, HZJ.out, hBz⟩, HBF.out⟩
set_option maxHeartbeats 8000000 in
theorem rv_row7 (wh : World) (l : Nat) (A : Option Addr) (c : Nat) (r : List Int) (w : World) (hB : BRow wh A c (7 :: r)) (h0 : Below wh.heap.size wh w) (hl : r.length + 1 ≤ 10000000000000) (hl6 : l ≤ 100) (IH : ∀ A c b w, BRow wh A c b → Below wh.heap.size wh w → b.length ≤ 10000000000000 → Calls Tryd.prog 30 #[.slice A b.length c, .int .i64 l] w fun e w' => RvIs wh w (valG false l b) e w' ∧ Below w.heap.size w w') :
    Calls Tryd.prog 30 #[.slice A (r.length + 1) c, .int .i64 ((l : Int) + 1)] w fun e w' => RvIs wh w (valG false (l + 1) (7 :: r)) e w' ∧ Below w.heap.size w w' := by
  obtain ⟨X, hX⟩ : ∃ X, valG false (l + 1) (7 :: r) = X := ⟨_, rfl⟩
  rw [hX]
  have HXX := Lib.hid hX
  obtain ⟨bb, off, rfl, hbb, hcell0⟩ := hB.cells.u8 (l := 7 :: r) (k := 0) (by simp)
  have hcc := hB.len
  have hcm := hB.cap
  have hcut := hB.cut
  simp only [List.length_cons] at hcc
  obtain ⟨n, hn⟩ : ∃ n, r.length + 1 = n := ⟨_, rfl⟩
  rw [hn] at hcc hl ⊢
  have HRN := Lib.hid hn
  have hn0 : (0 : Int) < (n : Int) := by omega
  have hn1 : (1 : Int) ≤ (n : Int) := by omega
  have hnz : ((n : Int) == 0) = false := by rw [beq_eq_false_iff_ne]; omega
  have hlz : ((l : Int) + 1 == 0) = false := by rw [beq_eq_false_iff_ne]; omega
  have hng : 1 ≤ n := by omega
  clear hn hX
  obtain ⟨W, hW⟩ : ∃ W, W = w.alloc (.cells zeroBlk 25) := ⟨_, rfl⟩
  obtain ⟨gr, hgr⟩ : ∃ g, w.heap.size = g := ⟨_, rfl⟩
  obtain ⟨go, hgo⟩ : ∃ g, gr + 1 = g := ⟨_, rfl⟩
  have hWs : W.heap.size = go := by rw [hW, World.size_alloc]; omega
  obtain ⟨W2, hW2⟩ : ∃ W2, W2 = W.alloc (.cells #[.int .i64 (6), .int .i64 0, .string ⟨#[]⟩, .slice none 0 0, .slice none 0 0] 25) := ⟨_, rfl⟩
  have hM2 : MvS w W2 gr go (gr + 2) (6) 0 ⟨#[]⟩ (.slice none 0 0) (.slice none 0 0) [] [] := MvS.fresh (by rw [hW2, hW, ← hgr]; exact (Blk.new w _ _).alloc _) (by rw [hW2, ← hWs]; exact Blk.new W _ _) (by rw [hW2, World.size_alloc]; omega) (by omega) (by omega) (by omega) (by omega) (by omega) (by rw [hW2, hW]; exact ((Below.refl _ _).alloc (Nat.le_refl _) _).alloc (by simp) _)
  have hbhW : Below wh.heap.size wh W := h0.trans (by rw [hW]; exact (Below.refl _ _).alloc h0.size _)
  have e0 : W.cell? ⟨bb, off, none⟩ = some (.int .u8 7) := (hbhW.cell (p := ⟨bb, off, none⟩) hbb).trans (by simpa using hcell0)
  have HW := Lib.hid hW
  have HW2 := Lib.hid hW2
  have HGR := Lib.hid hgr
  have HGO := Lib.hid hgo
  have HWS := Lib.hid hWs
  clear hW hW2 hcell0 hB hbhW
  go_enter Tryd.func30, Tryd.ntmps30
  go_upto_region 1 with fail
  first | rw [← HW.out, hgr] | rw [← HW.out]
  go_upto_region 4 with fail
  first | rw [← HW2.out, hWs] | rw [← HW2.out]
  clear hgr hgo hWs e0
  have d0 : W2.cell? ⟨go, 0, none⟩ = some (.int .i64 (6)) := hM2.v.cell 0
  have hbh : Below wh.heap.size wh W2 := h0.trans (hM2.b.mono h0.size)
  by_cases hc1 : c = 1
  · have hn1' : n = 1 := by omega
    have hr0 : r = [] := List.eq_nil_of_length_eq_zero (by have := HRN.out; omega)
    subst hc1 hn1' hr0
    have hbr : BRow wh (some ⟨bb, off, none⟩) 0 [] := BRow.none
    go_upto_region 5 with fail
    have hxr : rowJ 6 (memG false (valG false l) true 25 []) = X := by rw [← HXX.out, valG_rowJ (by omega)]; rfl
    have HC : Hid (Calls Tryd.prog 49 #[.agg #[.int .i64 6, .int .i64 0, .string ⟨#[]⟩, .slice none 0 0, .slice none 0 0], .slice (some ⟨bb, off, none⟩) 0 0, .int .i64 ((l : Int) + 1)] W2 fun e w' => RvIs wh W2 X e w' ∧ Below W2.heap.size W2 w') := Lib.hid (by have h := members6 wh l (some ⟨bb, off, none⟩) 0 [] W2 hbr hbh (by simp) hl6 IH; rw [hxr] at h; exact h)
    clear hxr
    obtain ⟨d1, d2, d3, d4⟩ : W2.cell? ⟨go, 1, none⟩ = some (.int .i64 0) ∧ W2.cell? ⟨go, 2, none⟩ = some (.string ⟨#[]⟩) ∧ W2.cell? ⟨go, 3, none⟩ = some (.slice none 0 0) ∧ W2.cell? ⟨go, 4, none⟩ = some (.slice none 0 0) := ⟨hM2.v.cell 1, hM2.v.cell 2, hM2.v.cell 3, hM2.v.cell 4⟩
    go_wp2_with fail
    refine HC.out.mono ?_
    rintro e w3 ⟨hrv, hb3⟩
    have hM3 := hM2.below hb3
    clear d0 d1 d2 d3 d4 HC
    cases X with
    | none =>
      obtain ⟨z, Az, nz', cz', he⟩ := hrv
      obtain ⟨kz, nz, sz, Anz, nsz, cnz, Aiz, isz, ciz⟩ := z
      have he' : e = .returned (.tuple #[.agg #[.int .i64 kz, .int .i64 nz, .string sz, .slice Anz nsz.length cnz, .slice Aiz isz.length ciz], .slice Az nz' cz', .bool false]) := he
      clear he
      subst he'
      obtain ⟨x0, x1, x2, x3, x4⟩ : w3.cell? ⟨gr, 0, none⟩ = some (.int .i64 0) ∧ w3.cell? ⟨gr, 1, none⟩ = some (.int .i64 0) ∧ w3.cell? ⟨gr, 2, none⟩ = some (.string ⟨#[]⟩) ∧ w3.cell? ⟨gr, 3, none⟩ = some (.slice none 0 0) ∧ w3.cell? ⟨gr, 4, none⟩ = some (.slice none 0 0) := ⟨hM3.res.cell 0, hM3.res.cell 1, hM3.res.cell 2, hM3.res.cell 3, hM3.res.cell 4⟩
      obtain ⟨y0, y1, y2, y3, y4⟩ : w3.frozen? ⟨gr, 0, none⟩ = false ∧ w3.frozen? ⟨gr, 1, none⟩ = false ∧ w3.frozen? ⟨gr, 2, none⟩ = false ∧ w3.frozen? ⟨gr, 3, none⟩ = false ∧ w3.frozen? ⟨gr, 4, none⟩ = false := ⟨hM3.res.free 0, hM3.res.free 1, hM3.res.free 2, hM3.res.free 3, hM3.res.free 4⟩
      obtain ⟨W9, hW9⟩ : ∃ W9, W9 = (((((w3.setCell ⟨gr, 0, none⟩ (.int .i64 kz)).setCell ⟨gr, 1, none⟩ (.int .i64 nz)).setCell ⟨gr, 2, none⟩ (.string sz)).setCell ⟨gr, 3, none⟩ (.slice Anz nsz.length cnz)).setCell ⟨gr, 4, none⟩ (.slice Aiz isz.length ciz)) := ⟨_, rfl⟩
      have hC9 : Chg w3 W9 (fun k => k = gr) := by rw [hW9]; exact chg_five w3 gr (.int .i64 kz) (.int .i64 nz) (.string sz) (.slice Anz nsz.length cnz) (.slice Aiz isz.length ciz)
      have hZ9 : Blk W9 gr 25 #[.int .i64 kz, .int .i64 nz, .string sz, .slice Anz nsz.length cnz, .slice Aiz isz.length ciz] := by rw [hW9]; exact hM3.res.five (.int .i64 kz) (.int .i64 nz) (.string sz) (.slice Anz nsz.length cnz) (.slice Aiz isz.length ciz)
      obtain ⟨j0, j1, j2, j3, j4⟩ : W9.cell? ⟨gr, 0, none⟩ = some (.int .i64 kz) ∧ W9.cell? ⟨gr, 1, none⟩ = some (.int .i64 nz) ∧ W9.cell? ⟨gr, 2, none⟩ = some (.string sz) ∧ W9.cell? ⟨gr, 3, none⟩ = some (.slice Anz nsz.length cnz) ∧ W9.cell? ⟨gr, 4, none⟩ = some (.slice Aiz isz.length ciz) := ⟨hZ9.cell 0, hZ9.cell 1, hZ9.cell 2, hZ9.cell 3, hZ9.cell 4⟩
      have HBF : Hid (Below w.heap.size w W9) := Lib.hid (hM3.b.trans (hC9.below hM3.b.size fun i hi => by have := hM3.lr; omega))
      have HC9 := Lib.hid hC9
      have HW9 := Lib.hid hW9
      clear hW9 hC9
      go_wp2
      rw [← HW9.out]
      exact bodyPost_ret (v := .tuple #[.agg #[.int .i64 kz, .int .i64 nz, .string sz, .slice Anz nsz.length cnz, .slice Aiz isz.length ciz], .slice Az nz' cz', .bool false]) (by simp [results, Tryd.results30, go_sem, j0, j1, j2, j3, j4]) rfl ⟨⟨(LV.mk kz nz sz Anz nsz cnz Aiz isz ciz), Az, nz', cz', rfl⟩, HBF.out⟩
    | some q =>
    obtain ⟨jq, tq⟩ := q
    obtain ⟨z, Az, cz', he, hz1, hz2, hzj, hBz⟩ := hrv
    obtain ⟨kz, nz, sz, Anz, nsz, cnz, Aiz, isz, ciz⟩ := z
    have he' : e = .returned (.tuple #[.agg #[.int .i64 kz, .int .i64 nz, .string sz, .slice Anz nsz.length cnz, .slice Aiz isz.length ciz], .slice Az tq.length cz', .bool true]) := he
    clear he
    subst he'
    have HZJ := Lib.hid hzj
    clear hzj
    have hW2s := hM2.lt
    obtain ⟨x0, x1, x2, x3, x4⟩ : w3.cell? ⟨gr, 0, none⟩ = some (.int .i64 0) ∧ w3.cell? ⟨gr, 1, none⟩ = some (.int .i64 0) ∧ w3.cell? ⟨gr, 2, none⟩ = some (.string ⟨#[]⟩) ∧ w3.cell? ⟨gr, 3, none⟩ = some (.slice none 0 0) ∧ w3.cell? ⟨gr, 4, none⟩ = some (.slice none 0 0) := ⟨hM3.res.cell 0, hM3.res.cell 1, hM3.res.cell 2, hM3.res.cell 3, hM3.res.cell 4⟩
    obtain ⟨y0, y1, y2, y3, y4⟩ : w3.frozen? ⟨gr, 0, none⟩ = false ∧ w3.frozen? ⟨gr, 1, none⟩ = false ∧ w3.frozen? ⟨gr, 2, none⟩ = false ∧ w3.frozen? ⟨gr, 3, none⟩ = false ∧ w3.frozen? ⟨gr, 4, none⟩ = false := ⟨hM3.res.free 0, hM3.res.free 1, hM3.res.free 2, hM3.res.free 3, hM3.res.free 4⟩
    obtain ⟨W9, hW9⟩ : ∃ W9, W9 = (((((w3.setCell ⟨gr, 0, none⟩ (.int .i64 kz)).setCell ⟨gr, 1, none⟩ (.int .i64 nz)).setCell ⟨gr, 2, none⟩ (.string sz)).setCell ⟨gr, 3, none⟩ (.slice Anz nsz.length cnz)).setCell ⟨gr, 4, none⟩ (.slice Aiz isz.length ciz)) := ⟨_, rfl⟩
    have hC9 : Chg w3 W9 (fun k => k = gr) := by rw [hW9]; exact chg_five w3 gr (.int .i64 kz) (.int .i64 nz) (.string sz) (.slice Anz nsz.length cnz) (.slice Aiz isz.length ciz)
    have hZ9 : Blk W9 gr 25 #[.int .i64 kz, .int .i64 nz, .string sz, .slice Anz nsz.length cnz, .slice Aiz isz.length ciz] := by rw [hW9]; exact hM3.res.five (.int .i64 kz) (.int .i64 nz) (.string sz) (.slice Anz nsz.length cnz) (.slice Aiz isz.length ciz)
    obtain ⟨j0, j1, j2, j3, j4⟩ : W9.cell? ⟨gr, 0, none⟩ = some (.int .i64 kz) ∧ W9.cell? ⟨gr, 1, none⟩ = some (.int .i64 nz) ∧ W9.cell? ⟨gr, 2, none⟩ = some (.string sz) ∧ W9.cell? ⟨gr, 3, none⟩ = some (.slice Anz nsz.length cnz) ∧ W9.cell? ⟨gr, 4, none⟩ = some (.slice Aiz isz.length ciz) := ⟨hZ9.cell 0, hZ9.cell 1, hZ9.cell 2, hZ9.cell 3, hZ9.cell 4⟩
    have HBF : Hid (Below w.heap.size w W9) := Lib.hid (hM3.b.trans (hC9.below hM3.b.size fun i hi => by have := hM3.lr; omega))
    have HC9 := Lib.hid hC9
    have HW9 := Lib.hid hW9
    clear hW9 hC9
    go_wp2
    rw [← HW9.out]
    exact bodyPost_ret (v := .tuple #[.agg #[.int .i64 kz, .int .i64 nz, .string sz, .slice Anz nsz.length cnz, .slice Aiz isz.length ciz], .slice Az tq.length cz', .bool true]) (by simp [results, Tryd.results30, go_sem, j0, j1, j2, j3, j4]) rfl ⟨⟨(LV.mk kz nz sz Anz nsz cnz Aiz isz ciz), Az, cz', rfl, LV.At.move (S := fun k => W2.heap.size ≤ k) (fun k hk hl => HC9.out.block k hl (by have := hM2.hr; omega)) HC9.out.size _ hz1 hz2, LV.On.mono (fun k hk => Nat.le_trans hM2.b.size hk) _ hz2, HZJ.out, hBz⟩, HBF.out⟩
  have hbr := hcut
  have hrn : r.length = n - 1 := by have := HRN.out; omega
  have HRL := Lib.hid hrn
  clear hrn
  go_upto_region 5 with fail
  have hxr : rowJ 6 (memG false (valG false l) true 25 r) = X := by rw [← HXX.out, valG_rowJ (by omega)]; rfl
  have HC : Hid (Calls Tryd.prog 49 #[.agg #[.int .i64 6, .int .i64 0, .string ⟨#[]⟩, .slice none 0 0, .slice none 0 0], .slice (some ⟨bb, off + 1, none⟩) (n - 1) (c - 1), .int .i64 ((l : Int) + 1)] W2 fun e w' => RvIs wh W2 X e w' ∧ Below W2.heap.size W2 w') := Lib.hid (by have h := members6 wh l (some ⟨bb, off + 1, none⟩) (c - 1) r W2 hbr hbh (by have := HRL.out; omega) hl6 IH; rw [hxr, HRL.out] at h; exact h)
  clear hxr
  obtain ⟨d1, d2, d3, d4⟩ : W2.cell? ⟨go, 1, none⟩ = some (.int .i64 0) ∧ W2.cell? ⟨go, 2, none⟩ = some (.string ⟨#[]⟩) ∧ W2.cell? ⟨go, 3, none⟩ = some (.slice none 0 0) ∧ W2.cell? ⟨go, 4, none⟩ = some (.slice none 0 0) := ⟨hM2.v.cell 1, hM2.v.cell 2, hM2.v.cell 3, hM2.v.cell 4⟩
  go_wp2_with fail
  refine HC.out.mono ?_
  rintro e w3 ⟨hrv, hb3⟩
  have hM3 := hM2.below hb3
  clear d0 d1 d2 d3 d4 HC
  cases X with
  | none =>
    obtain ⟨z, Az, nz', cz', he⟩ := hrv
    obtain ⟨kz, nz, sz, Anz, nsz, cnz, Aiz, isz, ciz⟩ := z
    have he' : e = .returned (.tuple #[.agg #[.int .i64 kz, .int .i64 nz, .string sz, .slice Anz nsz.length cnz, .slice Aiz isz.length ciz], .slice Az nz' cz', .bool false]) := he
    clear he
    subst he'
    obtain ⟨x0, x1, x2, x3, x4⟩ : w3.cell? ⟨gr, 0, none⟩ = some (.int .i64 0) ∧ w3.cell? ⟨gr, 1, none⟩ = some (.int .i64 0) ∧ w3.cell? ⟨gr, 2, none⟩ = some (.string ⟨#[]⟩) ∧ w3.cell? ⟨gr, 3, none⟩ = some (.slice none 0 0) ∧ w3.cell? ⟨gr, 4, none⟩ = some (.slice none 0 0) := ⟨hM3.res.cell 0, hM3.res.cell 1, hM3.res.cell 2, hM3.res.cell 3, hM3.res.cell 4⟩
    obtain ⟨y0, y1, y2, y3, y4⟩ : w3.frozen? ⟨gr, 0, none⟩ = false ∧ w3.frozen? ⟨gr, 1, none⟩ = false ∧ w3.frozen? ⟨gr, 2, none⟩ = false ∧ w3.frozen? ⟨gr, 3, none⟩ = false ∧ w3.frozen? ⟨gr, 4, none⟩ = false := ⟨hM3.res.free 0, hM3.res.free 1, hM3.res.free 2, hM3.res.free 3, hM3.res.free 4⟩
    obtain ⟨W9, hW9⟩ : ∃ W9, W9 = (((((w3.setCell ⟨gr, 0, none⟩ (.int .i64 kz)).setCell ⟨gr, 1, none⟩ (.int .i64 nz)).setCell ⟨gr, 2, none⟩ (.string sz)).setCell ⟨gr, 3, none⟩ (.slice Anz nsz.length cnz)).setCell ⟨gr, 4, none⟩ (.slice Aiz isz.length ciz)) := ⟨_, rfl⟩
    have hC9 : Chg w3 W9 (fun k => k = gr) := by rw [hW9]; exact chg_five w3 gr (.int .i64 kz) (.int .i64 nz) (.string sz) (.slice Anz nsz.length cnz) (.slice Aiz isz.length ciz)
    have hZ9 : Blk W9 gr 25 #[.int .i64 kz, .int .i64 nz, .string sz, .slice Anz nsz.length cnz, .slice Aiz isz.length ciz] := by rw [hW9]; exact hM3.res.five (.int .i64 kz) (.int .i64 nz) (.string sz) (.slice Anz nsz.length cnz) (.slice Aiz isz.length ciz)
    obtain ⟨j0, j1, j2, j3, j4⟩ : W9.cell? ⟨gr, 0, none⟩ = some (.int .i64 kz) ∧ W9.cell? ⟨gr, 1, none⟩ = some (.int .i64 nz) ∧ W9.cell? ⟨gr, 2, none⟩ = some (.string sz) ∧ W9.cell? ⟨gr, 3, none⟩ = some (.slice Anz nsz.length cnz) ∧ W9.cell? ⟨gr, 4, none⟩ = some (.slice Aiz isz.length ciz) := ⟨hZ9.cell 0, hZ9.cell 1, hZ9.cell 2, hZ9.cell 3, hZ9.cell 4⟩
    have HBF : Hid (Below w.heap.size w W9) := Lib.hid (hM3.b.trans (hC9.below hM3.b.size fun i hi => by have := hM3.lr; omega))
    have HC9 := Lib.hid hC9
    have HW9 := Lib.hid hW9
    clear hW9 hC9
    go_wp2
    rw [← HW9.out]
    exact bodyPost_ret (v := .tuple #[.agg #[.int .i64 kz, .int .i64 nz, .string sz, .slice Anz nsz.length cnz, .slice Aiz isz.length ciz], .slice Az nz' cz', .bool false]) (by simp [results, Tryd.results30, go_sem, j0, j1, j2, j3, j4]) rfl ⟨⟨(LV.mk kz nz sz Anz nsz cnz Aiz isz ciz), Az, nz', cz', rfl⟩, HBF.out⟩
  | some q =>
  obtain ⟨jq, tq⟩ := q
  obtain ⟨z, Az, cz', he, hz1, hz2, hzj, hBz⟩ := hrv
  obtain ⟨kz, nz, sz, Anz, nsz, cnz, Aiz, isz, ciz⟩ := z
  have he' : e = .returned (.tuple #[.agg #[.int .i64 kz, .int .i64 nz, .string sz, .slice Anz nsz.length cnz, .slice Aiz isz.length ciz], .slice Az tq.length cz', .bool true]) := he
  clear he
  subst he'
  have HZJ := Lib.hid hzj
  clear hzj
  have hW2s := hM2.lt
  obtain ⟨x0, x1, x2, x3, x4⟩ : w3.cell? ⟨gr, 0, none⟩ = some (.int .i64 0) ∧ w3.cell? ⟨gr, 1, none⟩ = some (.int .i64 0) ∧ w3.cell? ⟨gr, 2, none⟩ = some (.string ⟨#[]⟩) ∧ w3.cell? ⟨gr, 3, none⟩ = some (.slice none 0 0) ∧ w3.cell? ⟨gr, 4, none⟩ = some (.slice none 0 0) := ⟨hM3.res.cell 0, hM3.res.cell 1, hM3.res.cell 2, hM3.res.cell 3, hM3.res.cell 4⟩
  obtain ⟨y0, y1, y2, y3, y4⟩ : w3.frozen? ⟨gr, 0, none⟩ = false ∧ w3.frozen? ⟨gr, 1, none⟩ = false ∧ w3.frozen? ⟨gr, 2, none⟩ = false ∧ w3.frozen? ⟨gr, 3, none⟩ = false ∧ w3.frozen? ⟨gr, 4, none⟩ = false := ⟨hM3.res.free 0, hM3.res.free 1, hM3.res.free 2, hM3.res.free 3, hM3.res.free 4⟩
  obtain ⟨W9, hW9⟩ : ∃ W9, W9 = (((((w3.setCell ⟨gr, 0, none⟩ (.int .i64 kz)).setCell ⟨gr, 1, none⟩ (.int .i64 nz)).setCell ⟨gr, 2, none⟩ (.string sz)).setCell ⟨gr, 3, none⟩ (.slice Anz nsz.length cnz)).setCell ⟨gr, 4, none⟩ (.slice Aiz isz.length ciz)) := ⟨_, rfl⟩
  have hC9 : Chg w3 W9 (fun k => k = gr) := by rw [hW9]; exact chg_five w3 gr (.int .i64 kz) (.int .i64 nz) (.string sz) (.slice Anz nsz.length cnz) (.slice Aiz isz.length ciz)
  have hZ9 : Blk W9 gr 25 #[.int .i64 kz, .int .i64 nz, .string sz, .slice Anz nsz.length cnz, .slice Aiz isz.length ciz] := by rw [hW9]; exact hM3.res.five (.int .i64 kz) (.int .i64 nz) (.string sz) (.slice Anz nsz.length cnz) (.slice Aiz isz.length ciz)
  obtain ⟨j0, j1, j2, j3, j4⟩ : W9.cell? ⟨gr, 0, none⟩ = some (.int .i64 kz) ∧ W9.cell? ⟨gr, 1, none⟩ = some (.int .i64 nz) ∧ W9.cell? ⟨gr, 2, none⟩ = some (.string sz) ∧ W9.cell? ⟨gr, 3, none⟩ = some (.slice Anz nsz.length cnz) ∧ W9.cell? ⟨gr, 4, none⟩ = some (.slice Aiz isz.length ciz) := ⟨hZ9.cell 0, hZ9.cell 1, hZ9.cell 2, hZ9.cell 3, hZ9.cell 4⟩
  have HBF : Hid (Below w.heap.size w W9) := Lib.hid (hM3.b.trans (hC9.below hM3.b.size fun i hi => by have := hM3.lr; omega))
  have HC9 := Lib.hid hC9
  have HW9 := Lib.hid hW9
  clear hW9 hC9
  go_wp2
  rw [← HW9.out]
  exact bodyPost_ret (v := .tuple #[.agg #[.int .i64 kz, .int .i64 nz, .string sz, .slice Anz nsz.length cnz, .slice Aiz isz.length ciz], .slice Az tq.length cz', .bool true]) (by simp [results, Tryd.results30, go_sem, j0, j1, j2, j3, j4]) rfl ⟨⟨(LV.mk kz nz sz Anz nsz cnz Aiz isz ciz), Az, cz', rfl, LV.At.move (S := fun k => W2.heap.size ≤ k) (fun k hk hl => HC9.out.block k hl (by have := hM2.hr; omega)) HC9.out.size _ hz1 hz2, LV.On.mono (fun k hk => Nat.le_trans hM2.b.size hk) _ hz2, HZJ.out, hBz⟩, HBF.out⟩
set_option maxHeartbeats 4000000 in
theorem rv_no (wh : World) (left : Nat) (A : Option Addr) (c : Nat) (b : List Int) (w : World) (hB : BRow wh A c b) (h0 : Below wh.heap.size wh w) (hl6 : left ≤ 100) (hno : b = [] ∨ left = 0 ∨ ∃ x r, b = x :: r ∧ (x < 1 ∨ 7 < x)) :
    Calls Tryd.prog 30 #[.slice A b.length c, .int .i64 left] w fun e w' => RvIs wh w none e w' ∧ Below w.heap.size w w' := by
  obtain ⟨W, hW⟩ : ∃ W, W = w.alloc (.cells zeroBlk 25) := ⟨_, rfl⟩
  obtain ⟨gr, hgr⟩ : ∃ g, w.heap.size = g := ⟨_, rfl⟩
  have hZ : Blk W gr 25 zeroBlk := by rw [hW, ← hgr]; exact Blk.new w _ _
  have hbw : Below w.heap.size w W := by rw [hW]; exact (Below.refl _ _).alloc (Nat.le_refl _) _
  have hbhW := h0.trans (hbw.mono h0.size)
  obtain ⟨x0, x1, x2, x3, x4⟩ : W.cell? ⟨gr, 0, none⟩ = some (.int .i64 0) ∧ W.cell? ⟨gr, 1, none⟩ = some (.int .i64 0) ∧ W.cell? ⟨gr, 2, none⟩ = some (.string ⟨#[]⟩) ∧ W.cell? ⟨gr, 3, none⟩ = some (.slice none 0 0) ∧ W.cell? ⟨gr, 4, none⟩ = some (.slice none 0 0) := ⟨hZ.cell 0, hZ.cell 1, hZ.cell 2, hZ.cell 3, hZ.cell 4⟩
  obtain ⟨y0, y1, y2, y3, y4⟩ : W.frozen? ⟨gr, 0, none⟩ = false ∧ W.frozen? ⟨gr, 1, none⟩ = false ∧ W.frozen? ⟨gr, 2, none⟩ = false ∧ W.frozen? ⟨gr, 3, none⟩ = false ∧ W.frozen? ⟨gr, 4, none⟩ = false := ⟨hZ.free 0, hZ.free 1, hZ.free 2, hZ.free 3, hZ.free 4⟩
  obtain ⟨W9, hW9⟩ : ∃ W9, W9 = (((((W.setCell ⟨gr, 0, none⟩ (.int .i64 0)).setCell ⟨gr, 1, none⟩ (.int .i64 0)).setCell ⟨gr, 2, none⟩ (.string ⟨#[]⟩)).setCell ⟨gr, 3, none⟩ (.slice none 0 0)).setCell ⟨gr, 4, none⟩ (.slice none 0 0)) := ⟨_, rfl⟩
  have hC9 : Chg W W9 (fun k => k = gr) := by rw [hW9]; exact chg_five W gr (.int .i64 0) (.int .i64 0) (.string ⟨#[]⟩) (.slice none 0 0) (.slice none 0 0)
  have hZ9 : Blk W9 gr 25 #[.int .i64 0, .int .i64 0, .string ⟨#[]⟩, .slice none 0 0, .slice none 0 0] := by rw [hW9]; exact hZ.five (.int .i64 0) (.int .i64 0) (.string ⟨#[]⟩) (.slice none 0 0) (.slice none 0 0)
  obtain ⟨j0, j1, j2, j3, j4⟩ : W9.cell? ⟨gr, 0, none⟩ = some (.int .i64 0) ∧ W9.cell? ⟨gr, 1, none⟩ = some (.int .i64 0) ∧ W9.cell? ⟨gr, 2, none⟩ = some (.string ⟨#[]⟩) ∧ W9.cell? ⟨gr, 3, none⟩ = some (.slice none 0 0) ∧ W9.cell? ⟨gr, 4, none⟩ = some (.slice none 0 0) := ⟨hZ9.cell 0, hZ9.cell 1, hZ9.cell 2, hZ9.cell 3, hZ9.cell 4⟩
  have HBF : Hid (Below w.heap.size w W9) := Lib.hid (hbw.trans (hC9.below hbw.size fun i hi => by omega))
  have HW := Lib.hid hW
  have HW9 := Lib.hid hW9
  have HGR := Lib.hid hgr
  have HNONE : Hid (RvIs wh w none (.returned (.tuple #[.agg #[.int .i64 0, .int .i64 0, .string ⟨#[]⟩, .slice none 0 0, .slice none 0 0], .slice none 0 0, .bool false])) W9) := Lib.hid ⟨zeroV, none, 0, 0, rfl⟩
  clear hW hW9 hC9 hZ9 hbw
  by_cases hb0 : b = []
  · subst hb0
    clear hno
    show Calls Tryd.prog 30 #[.slice A 0 c, .int .i64 left] w _
    go_enter Tryd.func30, Tryd.ntmps30
    go_upto_region 1 with fail
    first | rw [← HW.out, hgr] | rw [← HW.out]
    go_wp2
    rw [← HW9.out]
    exact bodyPost_ret (v := .tuple #[.agg #[.int .i64 0, .int .i64 0, .string ⟨#[]⟩, .slice none 0 0, .slice none 0 0], .slice none 0 0, .bool false]) (by simp [results, Tryd.results30, go_sem, j0, j1, j2, j3, j4]) rfl ⟨HNONE.out, (by first | exact HBF.out | (rw [← HGR.out]; exact HBF.out))⟩
  by_cases hl0 : left = 0
  · subst hl0
    have hne : ((b.length : Int) == 0) = false := by rw [beq_eq_false_iff_ne]; intro e; exact hb0 (List.eq_nil_of_length_eq_zero (by omega))
    clear hno hb0
    show Calls Tryd.prog 30 #[.slice A b.length c, .int .i64 0] w _
    go_enter Tryd.func30, Tryd.ntmps30
    go_upto_region 1 with fail
    first | rw [← HW.out, hgr] | rw [← HW.out]
    go_wp2
    rw [← HW9.out]
    exact bodyPost_ret (v := .tuple #[.agg #[.int .i64 0, .int .i64 0, .string ⟨#[]⟩, .slice none 0 0, .slice none 0 0], .slice none 0 0, .bool false]) (by simp [results, Tryd.results30, go_sem, j0, j1, j2, j3, j4]) rfl ⟨HNONE.out, (by first | exact HBF.out | (rw [← HGR.out]; exact HBF.out))⟩
  obtain ⟨x, r, hbx, hx⟩ : ∃ x r, b = x :: r ∧ (x < 1 ∨ 7 < x) := by
    rcases hno with h | h | h
    · exact absurd h hb0
    · exact absurd h hl0
    · exact h
  subst hbx
  have hne : (((x :: r).length : Int) == 0) = false := by rw [beq_eq_false_iff_ne, List.length_cons]; omega
  have hlz : ((left : Int) == 0) = false := by rw [beq_eq_false_iff_ne]; omega
  have hin : (0 : Int) < ((x :: r).length : Int) := by rw [List.length_cons]; omega
  obtain ⟨bb, off, rfl, hbb, hcell0⟩ := hB.cells.u8 (l := x :: r) (k := 0) (by simp)
  have e0 : W.cell? ⟨bb, off, none⟩ = some (.int .u8 x) := (hbhW.cell (p := ⟨bb, off, none⟩) hbb).trans (by simpa using hcell0)
  obtain ⟨n, hn⟩ : ∃ n, (x :: r).length = n := ⟨_, rfl⟩
  rw [hn] at hne hin ⊢
  clear hcell0 hB hn hb0 hl0
  by_cases hx1 : x < 1
  · go_enter Tryd.func30, Tryd.ntmps30
    go_upto_region 1 with fail
    first | rw [← HW.out, hgr] | rw [← HW.out]
    go_wp2
    rw [← HW9.out]
    exact bodyPost_ret (v := .tuple #[.agg #[.int .i64 0, .int .i64 0, .string ⟨#[]⟩, .slice none 0 0, .slice none 0 0], .slice none 0 0, .bool false]) (by simp [results, Tryd.results30, go_sem, j0, j1, j2, j3, j4]) rfl ⟨HNONE.out, (by first | exact HBF.out | (rw [← HGR.out]; exact HBF.out))⟩
  have hx7 : 7 < x := by omega
  go_enter Tryd.func30, Tryd.ntmps30
  go_upto_region 1 with fail
  first | rw [← HW.out, hgr] | rw [← HW.out]
  go_wp2
  rw [← HW9.out]
  exact bodyPost_ret (v := .tuple #[.agg #[.int .i64 0, .int .i64 0, .string ⟨#[]⟩, .slice none 0 0, .slice none 0 0], .slice none 0 0, .bool false]) (by simp [results, Tryd.results30, go_sem, j0, j1, j2, j3, j4]) rfl ⟨HNONE.out, (by first | exact HBF.out | (rw [← HGR.out]; exact HBF.out))⟩
theorem rvalue_any (wh : World) : ∀ (left : Nat) (A : Option Addr) (c : Nat) (b : List Int) (w : World), left ≤ 100 → BRow wh A c b → Below wh.heap.size wh w → b.length ≤ 10000000000000 →
    Calls Tryd.prog 30 #[.slice A b.length c, .int .i64 left] w fun e w' => RvIs wh w (valG false left b) e w' ∧ Below w.heap.size w w' := by
  intro left
  induction left with
  | zero =>
    intro A c b w hleft hB h0 hl
    exact rv_no wh 0 A c b w hB h0 (by omega) (.inr (.inl rfl))
  | succ l ih =>
    intro A c b w hleft hB h0 hl
    have IH : ∀ A c b w, BRow wh A c b → Below wh.heap.size wh w → b.length ≤ 10000000000000 → Calls Tryd.prog 30 #[.slice A b.length c, .int .i64 l] w fun e w' => RvIs wh w (valG false l b) e w' ∧ Below w.heap.size w w' := fun A c b w h2 h3 h4 => ih A c b w (by omega) h2 h3 h4
    rcases b with _ | ⟨x, r⟩
    · rw [valG_nil]
      exact rv_no wh (l + 1) A c [] w hB h0 hleft (.inl rfl)
    · by_cases hb : x < 1 ∨ 7 < x
      · rw [valG_bad hb]
        exact rv_no wh (l + 1) A c (x :: r) w hB h0 hleft (.inr (.inr ⟨x, r, rfl, hb⟩))
      · rw [List.length_cons] at hl ⊢
        have hxc : x = 1 ∨ x = 2 ∨ x = 3 ∨ x = 4 ∨ x = 5 ∨ x = 6 ∨ x = 7 := by omega
        rcases hxc with rfl | rfl | rfl | rfl | rfl | rfl | rfl
        · exact rv_leaf1 wh l A c r w hB h0 hl (by omega)
        · exact rv_leaf2 wh l A c r w hB h0 hl (by omega)
        · exact rv_leaf3 wh l A c r w hB h0 hl (by omega)
        · exact rv_int wh l A c r w hB h0 hl (by omega)
        · exact rv_str wh l A c r w hB h0 hl (by omega)
        · exact rv_row6 wh l A c r w hB h0 hl (by omega) IH
        · exact rv_row7 wh l A c r w hB h0 hl (by omega) IH
end Go.Proofs.YtpnbmgfnnmmokaaDoor
