/-
  The contract of node.Write: leaves.
-/
import Derived.Test.YtbngcinhjoigaaaVj
set_option linter.unusedVariables false
namespace Go.Proofs.Ytbngcinhjoigaaa
open Go.RowKit

theorem OwnZ.base_le {w : World} {base g N n : Nat} {l : List Int} (h : OwnZ w base g N n l) : base ≤ w.heap.size := by have := h.blk.lt; have := h.low; omega
theorem OwnZ.stepA {W wr w1 : World} {base g N n : Nat} {l : List Int} {o : Obj} (h : OwnZ wr base g N n l) (hB : Below base W wr) (hg : (wr.alloc o).grownBy w1 (some g)) : Below base W w1 :=
  hB.trans (((Below.refl _ _).alloc h.base_le o).trans ((h.alloc o).below hg (by have := h.base_le; simp; omega)))
theorem OwnZ.stepG {W wr w1 : World} {base g N n : Nat} {l : List Int} (h : OwnZ wr base g N n l) (hB : Below base W wr) (hg : wr.grownBy w1 (some g)) : Below base W w1 :=
  hB.trans (h.below hg h.base_le)
theorem below_base {base : Nat} {W w : World} (h : Below base W w) (hb : base ≤ W.heap.size) {A : Option Addr} {xs : List Value} (hc : Cells W base A xs) : Cells w base A xs := hc.below h

theorem cells_second (w : World) (o : Obj) (l : List Int) : Cells ((w.alloc o).alloc (.cells (U8 l).toArray 5)) (w.heap.size + 2) (some ⟨w.heap.size + 1, 0, none⟩) (U8 l) := by
  have h := cells_new (w.alloc o) l
  rw [World.size_alloc] at h
  exact h
/-- Rows that lie below a block. -/
theorem RowsC.low {w w' : World} {A : Option Addr} {ls : List (List Int)} {B : Nat} (h : RowsC w A ls) (hB : w.heap.size ≤ B) (hb : Below B w w') : RowsC w' A ls := h.below (hb.mono hB)

set_option maxRecDepth 8000 in
set_option maxHeartbeats 8000000 in
theorem write_leaf (Ak : Option Addr) (ks : List (List Int)) (ck : Nat) (Av : Option Addr) (vs : List (List Int)) (cv : Nat) (Ai : Option Addr) (is : List Int) (ci : Nat) (w : World) (h : NodeAt w Ak ks ck Av vs cv Ai is ci) (h1 : LenLe ks 100000) (h2 : LenLe vs 100000) (h3 : ks.length ≤ 100000) (h4 : vs.length ≤ 1000000) (h5 : is.length ≤ 1000000) :
    Calls Try.prog 12 #[nodeV true Ak ks ck Av vs cv Ai is ci] w (WriteRes w (frmB true ks vs is) (pageL true ks vs is)) := by
  obtain ⟨W, hW⟩ : ∃ W, W = w.alloc (.cells #[.bool true, .slice Ak ks.length ck, .slice Av vs.length cv, .slice Ai is.length ci] 25) := ⟨_, rfl⟩
  have hF : Four W w.heap.size (.bool true) (.slice Ak ks.length ck) (.slice Av vs.length cv) (.slice Ai is.length ci) := by rw [hW]; exact Four.new w _ _ _ _ _
  have hB0 : Below w.heap.size w W := by rw [hW]; exact (Below.refl _ _).alloc (Nat.le_refl _) _
  have hWz : W.heap.size = w.heap.size + 1 := by rw [hW]; simp
  have hN := h.below hB0
  have HW := Lib.hid hW
  have HWZ := Lib.hid hWz
  have HC := Lib.hid (formed_any true Ak ks ck Av vs cv Ai is ci W hN h1 h2 h3 h4 h5)
  clear hW h hWz
  obtain ⟨N, hNN⟩ : ∃ N : Nat, N = 1024 := ⟨_, rfl⟩
  have hmk : ∀ w, (Instr.makeSlice 26 (.int .i64 0) (.int .i64 1024)).run Try.prog w = .ok (.slice (some ⟨w.heap.size, 0, none⟩) 0 N) (w.alloc (.cells (U8 (zerosL N)).toArray 5)) := by rw [hNN]; exact make1024
  have hN1 : (1024 : Int) ≤ (N : Int) := by omega
  have hN2 : N ≤ 1024 := by omega
  have HNN := Lib.hid hNN
  clear hNN
  cases hf : frmB true ks vs is with
  | false =>
    rw [hf] at HC
    clear hf
    go_enter Try.func12, Try.ntmps12
    go_wp2_with fail
    rw [← HW.out]
    refine HC.out.mono ?_
    rintro e w1 ⟨rfl, hb1⟩
    go_wp2
    go_ret2
    exact ⟨⟨_, rfl, Own.nil _ _⟩, hB0.trans (hb1.mono hB0.size)⟩
  | true =>
    rw [hf] at HC
    obtain ⟨hsh, hsz⟩ : ShapedP true ks vs is ∧ sizeTo true ks vs ks.length ≤ 1024 := by
      unfold frmB at hf
      rw [Bool.and_eq_true] at hf
      exact ⟨of_decide_eq_true hf.1, of_decide_eq_true hf.2⟩
    clear hf
    obtain ⟨hKO, hVO, _, hlen⟩ := hsh
    rw [if_pos rfl] at hlen
    have HKO := Lib.hid hKO
    have HVO := Lib.hid hVO
    have HLEN := Lib.hid hlen
    have H0 : Hid (wrTo true ks vs is 0 = [1] ++ be16 (ks.length : Int)) := Lib.hid (by simp [wrTo, headL])
    have HS : Hid (∀ k, wrTo true ks vs is (k + 1) = wrTo true ks vs is k ++ [((ks.getD k []).length : Int)] ++ be16 ((vs.getD k []).length : Int) ++ ks.getD k [] ++ vs.getD k []) := Lib.hid fun k => by
      rw [wrTo, entL, if_pos rfl]; simp
    have HL : Hid (∀ k, k < ks.length → (wrTo true ks vs is k).length + 3 + (ks.getD k []).length + (vs.getD k []).length ≤ 1024) := Lib.hid fun k hk => by
      have a1 := wrTo_len true ks vs is k
      have a2 := sizeTo_mono true ks vs (show k + 1 ≤ ks.length by omega)
      rw [sizeTo] at a2
      have a3 : entN true ks vs k = 3 + (ks.getD k []).length + (vs.getD k []).length := rfl
      omega
    have HPG : Hid (pageL true ks vs is = wrTo true ks vs is ks.length ++ zerosL (1024 - (wrTo true ks vs is ks.length).length)) := Lib.hid (by rw [wrTo_len]; rfl)
    have hks : ks.length ≤ 1024 := by
      have := sizeTo_mono true ks vs (Nat.zero_le ks.length)
      have : ∀ k, k ≤ sizeTo true ks vs k := fun k => by
        induction k with
        | zero => exact Nat.zero_le _
        | succ k ih =>
          rw [sizeTo]
          have : entN true ks vs k = 3 + (ks.getD k []).length + (vs.getD k []).length := rfl
          omega
      have := this ks.length
      omega
    clear hKO hVO hlen hsz
    generalize pageL true ks vs is = PG at *
    generalize wrTo true ks vs is = wt at *
    go_enter Try.func12, Try.ntmps12
    go_wp2_with fail
    rw [← HW.out]
    refine HC.out.mono ?_
    clear HC
    rintro e w1 ⟨rfl, hb1⟩
    have hs1 : w.heap.size + 1 ≤ w1.heap.size := by have := hb1.size; have := HWZ.out; omega
    have hb1' : Below (w.heap.size + 1) W w1 := by rw [← HWZ.out]; exact hb1
    obtain ⟨c0, c1, c3, c4⟩ := hF.below hb1' (Nat.lt_succ_self _)
    have hz1 := OwnZ.new w1 (w.heap.size + 1) N hs1
    have hb1z : Below (w.heap.size + 1) W (w1.alloc (.cells (U8 (zerosL N)).toArray 5)) := hb1'.alloc hs1 _
    have hs2 : w.heap.size < w1.heap.size := by omega
    clear hb1
    go_wp2_with (first | (at_builtin; refine appZ_any rfl (.tmp 13) (.tmp 14) rfl (w.heap.size + 1) w1.heap.size N 0 [] rfl (hz1.alloc _) _ _ 1 1 [1] rfl rfl (cells_second w1 _ [1]) (by omega) ?_; intro w2 hown2 hg2; have hb2 := hz1.stepA hb1z hg2; obtain ⟨p0, p1, p2, p3⟩ := hF.below hb2 (Nat.lt_succ_self _)))
    have hz2 : OwnZ w2 (w.heap.size + 1) w1.heap.size N 1 [1] := hown2
    generalize w1.heap.size = g at *
    refine (append16_z (w.heap.size + 1) g N 1 [1] (ks.length : Int) w2 (by omega) (by omega) hz2 (by omega)).mono ?_
    rintro e w3 ⟨rfl, hz3, hg3⟩
    have hb3 := hz2.stepG hb2 hg3
    rw [← H0.out] at hz3
    clear p0 p1 p2 p3 c0 c1 c3 c4 hz1 hb1z hown2 hz2 hb2 hg2 hg3 hb1'
    obtain ⟨c0, c1, c3, c4⟩ := hF.below hb3 (Nat.lt_succ_self _)
    go_wp2
    go_loopw [4, 38] (fun b i wr => ∃ k n : Nat, i = .int .i64 k ∧ k ≤ ks.length ∧ b = .slice (some ⟨g, 0, none⟩) n N ∧ OwnZ wr (w.heap.size + 1) g N n (wt k) ∧ Below (w.heap.size + 1) W wr)
      (fun _ i _ => ks.length - (intOf i).toNat)
    case atStart => exact ⟨0, 3, rfl, Nat.zero_le _, rfl, hz3, hb3⟩
    case round =>
      obtain ⟨k, n, rfl, hk, rfl, hz, hB⟩ := hrel
      clear c0 c1 c3 c4 hz3 hb3
      obtain ⟨c0, c1, c3, c4⟩ := hF.below hB (Nat.lt_succ_self _)
      by_cases hlt : k < ks.length
      · have hkI : (k : Int) < (ks.length : Int) := by omega
        have hlv : k < vs.length := by have := HLEN.out; omega
        have hkv : (k : Int) < (vs.length : Int) := by omega
        have hfit := HL.out k hlt
        have hnl := hz.len
        have hNE := HNN.out
        have hfk : n + 3 + (ks.getD k []).length + (vs.getD k []).length ≤ N := by omega
        clear hfit hnl hNE
        have HSK := Lib.hid (HS.out k)
        have hx1 := (HKO.out k hlt).2.1
        have hy1 := HVO.out.getD k
        have hBw : Below W.heap.size W wr := by rw [HWZ.out]; exact hB
        obtain ⟨b, off, A', c, rfl, hb, hc, hcl, hoc, _⟩ := hN.keys k hlt
        obtain ⟨bv, offv, A2, c2, rfl, hbv, hcv, hclv, hocv, _⟩ := hN.vals k hlv
        rw [getD_at hlt] at HSK hfk hx1
        rw [getD_at hlv] at HSK hfk hy1
        generalize ks[k] = x at *
        generalize vs[k] = y at *
        have hbz : b < w.heap.size + 1 := by rw [← HWZ.out]; exact hb
        have hbvz : bv < w.heap.size + 1 := by rw [← HWZ.out]; exact hbv
        have d1 : wr.cell? ⟨b, off + k, none⟩ = some (.slice A' x.length c) := (hB.cell (p := ⟨b, off + k, none⟩) hbz).trans hc
        have hclW : Cells W (w.heap.size + 1) A' (U8 x) := by rw [← HWZ.out]; exact hcl
        have hclvW : Cells W (w.heap.size + 1) A2 (U8 y) := by rw [← HWZ.out]; exact hclv
        go_wp2_with (first | (at_builtin; refine appZ_any rfl (.tmp 43) (.tmp 47) rfl (w.heap.size + 1) g N n (wt k) rfl (hz.alloc _) _ _ 1 1 [_] rfl rfl (cells_new wr [_]) (by omega) ?_; intro w2 hown2 hg2; have hb2 := hz.stepA hB hg2; obtain ⟨p0, p1, p2, p3⟩ := hF.below hb2 (Nat.lt_succ_self _); have d2 : w2.cell? ⟨bv, offv + k, none⟩ = some (.slice A2 y.length c2) := (hb2.cell (p := ⟨bv, offv + k, none⟩) hbvz).trans hcv))
        refine (append16_z (w.heap.size + 1) g N (n + 1) _ (y.length : Int) w2 (by omega) (by omega) hown2 (by omega)).mono ?_
        rintro e w3 ⟨rfl, hz3, hg3⟩
        have hb3 := hown2.stepG hb2 hg3
        clear p0 p1 p2 p3 c0 c1 c3 c4 d1 d2
        obtain ⟨c0, c1, c3, c4⟩ := hF.below hb3 (Nat.lt_succ_self _)
        have d2 : w3.cell? ⟨bv, offv + k, none⟩ = some (.slice A2 y.length c2) := (hb3.cell (p := ⟨bv, offv + k, none⟩) hbvz).trans hcv
        have hclx := hclW.below hb3
        have hbx : w.heap.size < w3.heap.size := by have := hb3.size; have := HWZ.out; omega
        have hbv3 : bv < w3.heap.size := by have := hb3.size; have := HWZ.out; omega
        have hbb : w.heap.size + 1 ≤ w3.heap.size := by omega
        have hclv3 := hclvW.below hb3
        have hs3 := hz3.base_le
        go_wp2
        go_region_held3 (fun w' => w'.cell? ⟨w.heap.size, 2, none⟩ = some (.slice (some ⟨bv, offv, none⟩) vs.length cv) ∧ w'.cell? ⟨bv, offv + k, none⟩ = some (.slice A2 y.length c2)) (go_keep)
          (first
            | (refine appZ_step rfl (.tmp 60) (.tmp 61) rfl (w.heap.size + 1) g N (n + 1 + 2) _ rfl (by exact hz3.drew) _ _ c x.length x rfl rfl (by exact hclx.drew) (by omega) ?_; intro w4 hown4 hg4; have hb4 := hz3.drew.below hg4 hs3; have z1 : w4.cell? ⟨w.heap.size, 2, none⟩ = some (.slice (some ⟨bv, offv, none⟩) vs.length cv) := (hb4.cell (p := ⟨w.heap.size, 2, none⟩) (Nat.lt_succ_self _)).trans c3; have z2 : w4.cell? ⟨bv, offv + k, none⟩ = some (.slice A2 y.length c2) := (hb4.cell (p := ⟨bv, offv + k, none⟩) hbvz).trans d2)
            | (refine appZ_step rfl (.tmp 62) (.tmp 67) rfl (w.heap.size + 1) g N (n + 1 + 2 + x.length) _ rfl (by exact hown4) _ _ c2 y.length y rfl rfl (by exact (hclv3.drew.below hb4)) (by omega) ?_; intro w5 hown5 hg5; have hb5 := hown4.below hg5 hown4.base_le; have z3 : w5.cell? ⟨w.heap.size, 2, none⟩ = some (.slice (some ⟨bv, offv, none⟩) vs.length cv) := (hb5.cell (p := ⟨w.heap.size, 2, none⟩) (Nat.lt_succ_self _)).trans z1; have z4 : w5.cell? ⟨bv, offv + k, none⟩ = some (.slice A2 y.length c2) := (hb5.cell (p := ⟨bv, offv + k, none⟩) hbvz).trans z2))
        all_goals
          have hBF := (hb3.drew.trans hb4).trans hb5
          go_wp2
          go_roundw
          case rel => exact ⟨k + 1, _, by go_num, by omega, rfl, hown5.as HSK.out.symm, hBF⟩
          case measure => simp [intOf]; omega
      · have hke : k = ks.length := by omega
        subst hke
        have hnl := hz.len
        have hfitN := hz.fits
        have HOWN : Hid (Own wr (w.heap.size + 1) (.slice (some ⟨g, 0, none⟩) 1024 1024) PG) := Lib.hid (by
          have hNE := HNN.out
          subst hNE
          exact hz.own (by decide) (by rw [HPG.out, hnl]))
        have HNE := Lib.hid HNN.out
        clear hnl
        go_wp2
        go_ret2
        refine ⟨⟨_, ?_, HOWN.out.mono (Nat.le_succ _)⟩, hB0.trans (hB.mono (Nat.le_succ _))⟩
        rw [HNE.out]
        rfl
end Go.Proofs.Ytbngcinhjoigaaa
