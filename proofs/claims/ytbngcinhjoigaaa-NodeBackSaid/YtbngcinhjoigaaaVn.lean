/-
  The contract of munimentref09.Write: leaves.
-/
import Derived.Test.YtbngcinhjoigaaaVm
set_option linter.unusedVariables false
namespace Go.Proofs.Ytbngcinhjoigaaa
open Go.RowKit

theorem own_below {w w' : World} {base : Nat} {v : Value} {l : List Int} (h : Own w base v l) (hb : Below w.heap.size w w') : Own w' base v l := h.below hb
theorem zerosL_succ (n : Nat) : zerosL (n + 1) = zerosL n ++ [0] := List.replicate_succ'

set_option maxRecDepth 8000 in
set_option maxHeartbeats 8000000 in
theorem rwrite_leaf (Ak : Option Addr) (ks : List (List Int)) (ck : Nat) (Av : Option Addr) (vs : List (List Int)) (cv : Nat) (Ai : Option Addr) (is : List Int) (ci : Nat) (w : World) (h : NodeAt w Ak ks ck Av vs cv Ai is ci) (h1 : LenLe ks 100000) (h2 : LenLe vs 100000) (h3 : ks.length ≤ 100000) (h4 : vs.length ≤ 1000000) (h5 : is.length ≤ 1000000) :
    Calls Try.prog 13 #[nodeV true Ak ks ck Av vs cv Ai is ci] w (WriteRes w (frmB true ks vs is) (pageL true ks vs is)) := by
  obtain ⟨W, hW⟩ : ∃ W, W = w.alloc (.cells #[.bool true, .slice Ak ks.length ck, .slice Av vs.length cv, .slice Ai is.length ci] 29) := ⟨_, rfl⟩
  have hF : Four W w.heap.size (.bool true) (.slice Ak ks.length ck) (.slice Av vs.length cv) (.slice Ai is.length ci) := by rw [hW]; exact Four.new w _ _ _ _ _
  have hB0 : Below w.heap.size w W := by rw [hW]; exact (Below.refl _ _).alloc (Nat.le_refl _) _
  have hWz : W.heap.size = w.heap.size + 1 := by rw [hW]; simp
  have hN := h.below hB0
  have HW := Lib.hid hW
  have HWZ := Lib.hid hWz
  have HC := Lib.hid (rformed_any true Ak ks ck Av vs cv Ai is ci W hN h1 h2 h3 h4 h5)
  clear hW h hWz
  cases hf : frmB true ks vs is with
  | false =>
    rw [hf] at HC
    clear hf
    go_enter Try.func13, Try.ntmps13
    go_wp2_with fail
    rw [← HW.out]
    refine HC.out.mono ?_
    rintro e w1 ⟨rfl, hb1⟩
    go_wp2
    go_ret2
    exact ⟨⟨_, rfl, Own.nil _ _⟩, hB0.trans (hb1.mono hB0.size)⟩
  | true =>
    rw [hf] at HC
    obtain ⟨hsh, hsz⟩ : ShapedP true ks vs is ∧ sizeTo true ks vs ks.length ≤ 1024 := by
      unfold frmB at hf
      rw [Bool.and_eq_true] at hf
      exact ⟨of_decide_eq_true hf.1, of_decide_eq_true hf.2⟩
    clear hf
    obtain ⟨hKO, hVO, _, hlen⟩ := hsh
    rw [if_pos rfl] at hlen
    have HKO := Lib.hid hKO
    have HVO := Lib.hid hVO
    have HLEN := Lib.hid hlen
    have H0 : Hid (wrTo true ks vs is 0 = [] ++ [1] ++ be16 (ks.length : Int)) := Lib.hid (by simp [wrTo, headL])
    have HS : Hid (∀ k, wrTo true ks vs is (k + 1) = wrTo true ks vs is k ++ [((ks.getD k []).length : Int)] ++ be16 ((vs.getD k []).length : Int) ++ ks.getD k [] ++ vs.getD k []) := Lib.hid fun k => by
      rw [wrTo, entL, if_pos rfl]; simp
    have HL : Hid (∀ k, k < ks.length → (wrTo true ks vs is k).length + 3 + (ks.getD k []).length + (vs.getD k []).length ≤ 1024) := Lib.hid fun k hk => by
      have a1 := wrTo_len true ks vs is k
      have a2 := sizeTo_mono true ks vs (show k + 1 ≤ ks.length by omega)
      rw [sizeTo] at a2
      have a3 : entN true ks vs k = 3 + (ks.getD k []).length + (vs.getD k []).length := rfl
      omega
    have HPG : Hid (pageL true ks vs is = wrTo true ks vs is ks.length ++ zerosL (1024 - (wrTo true ks vs is ks.length).length)) := Lib.hid (by rw [wrTo_len]; rfl)
    have HPL : Hid ((wrTo true ks vs is ks.length).length ≤ 1024) := Lib.hid (by rw [wrTo_len]; exact hsz)
    clear hKO hVO hlen hsz
    generalize pageL true ks vs is = PG at *
    generalize wrTo true ks vs is = wt at *
    go_enter Try.func13, Try.ntmps13
    go_wp2_with fail
    rw [← HW.out]
    refine HC.out.mono ?_
    clear HC
    rintro e w1 ⟨rfl, hb1⟩
    have hs1 : w.heap.size + 1 ≤ w1.heap.size := by have := hb1.size; have := HWZ.out; omega
    have hb1' : Below (w.heap.size + 1) W w1 := by rw [← HWZ.out]; exact hb1
    obtain ⟨c0, c1, c3, c4⟩ := hF.below hb1' (Nat.lt_succ_self _)
    clear hb1
    go_wp2_with (first | (at_builtin; refine appN_any rfl (.tmp 11) (.tmp 12) rfl (w.heap.size + 1) none 0 0 [] rfl (Own.nil _ _) _ _ 1 1 [1] rfl rfl (cells_new w1 [1]) (by omega) (by simp; omega) ?_; intro A2 x2 w2 hown2 hbl2; have hb2 := (hb1'.alloc hs1 (.cells #[.int .u8 1] 5)).trans hbl2; obtain ⟨p0, p1, p2, p3⟩ := hF.below hb2 (Nat.lt_succ_self _)))
    have hs2 : w.heap.size + 1 ≤ w2.heap.size := by have := hb2.size; have := HWZ.out; omega
    clear c0 c1 c3 c4 hb1' hbl2
    refine (rbig2_any (ks.length : Int) w2 (by omega) (by omega)).mono ?_
    rintro e w3 ⟨A3, rfl, hc3, hb3⟩
    have hB3 := hb2.trans (hb3.mono hs2)
    have hs3 : w.heap.size + 1 ≤ w3.heap.size := by have := hB3.size; have := HWZ.out; omega
    have hown3 := hown2.below hb3
    clear p0 p1 p2 p3 hb2 hb3 hown2
    go_wp2_with (first | (at_builtin; refine appN_any rfl (.tmp 17) (.tmp 21) rfl (w.heap.size + 1) A2 1 x2 _ rfl hown3 _ _ 2 2 (be16 (ks.length : Int)) rfl rfl hc3 (by omega) hs3 ?_; intro A4 x4 w4 hown4 hbl4; have hb4 := hB3.trans hbl4; obtain ⟨p0, p1, p2, p3⟩ := hF.below hb4 (Nat.lt_succ_self _)))
    have hs4 : w.heap.size + 1 ≤ w4.heap.size := by have := hb4.size; have := HWZ.out; omega
    have hownL : Own w4 (w.heap.size + 1) (.slice A4 3 x4) (wt 0) := by rw [H0.out]; exact hown4
    have hBL := hb4
    clear p0 p1 p2 p3 hown4 hbl4 hc3 hown3 hB3
    obtain ⟨c0, c1, c3, c4⟩ := hF.below hBL (Nat.lt_succ_self _)
    go_wp2
    go_loopw [4, 5] (fun b i wr => ∃ (k n : Nat) (A : Option Addr) (c : Nat), i = .int .i64 k ∧ k ≤ ks.length ∧ b = .slice A n c ∧ Own wr (w.heap.size + 1) (.slice A n c) (wt k) ∧ Below (w.heap.size + 1) W wr)
      (fun _ i _ => ks.length - (intOf i).toNat)
    case atStart => exact ⟨0, _, _, _, rfl, Nat.zero_le _, rfl, hownL, hBL⟩
    case round =>
      obtain ⟨k, n, Ab, cb, rfl, hk, rfl, hown, hB⟩ := hrel
      clear c0 c1 c3 c4 hownL hBL
      obtain ⟨c0, c1, c3, c4⟩ := hF.below hB (Nat.lt_succ_self _)
      have hs : w.heap.size + 1 ≤ wr.heap.size := by have := hB.size; have := HWZ.out; omega
      by_cases hlt : k < ks.length
      · have hkI : (k : Int) < (ks.length : Int) := by omega
        have hfit := HL.out k hlt
        have hnl := hown.len_
        rw [← hnl] at hfit
        have hfk := hfit
        clear hfit hnl
        have HSK := Lib.hid (HS.out k)
        have hx1 := (HKO.out k hlt).2.1
        obtain ⟨b, off, A', c, rfl, hb, hc, hcl, hoc, _⟩ := hN.keys k hlt
        have hlv : k < vs.length := by have := HLEN.out; omega
        have hkv : (k : Int) < (vs.length : Int) := by omega
        have hy1 := HVO.out.getD k
        obtain ⟨bv, offv, A2, c2, rfl, hbv, hcv, hclv, hocv, _⟩ := hN.vals k hlv
        rw [getD_at hlt] at HSK hfk hx1
        rw [getD_at hlv] at HSK hfk hy1
        generalize ks[k] = x at *
        generalize vs[k] = y at *
        have hbvz : bv < w.heap.size + 1 := by rw [← HWZ.out]; exact hbv
        have hclvW : Cells W (w.heap.size + 1) A2 (U8 y) := by rw [← HWZ.out]; exact hclv
        have hbz : b < w.heap.size + 1 := by rw [← HWZ.out]; exact hb
        have d1 : wr.cell? ⟨b, off + k, none⟩ = some (.slice A' x.length c) := (hB.cell (p := ⟨b, off + k, none⟩) hbz).trans hc
        have hclW : Cells W (w.heap.size + 1) A' (U8 x) := by rw [← HWZ.out]; exact hcl
        go_wp2_with (first | (at_builtin; refine appN_any rfl (.tmp 40) (.tmp 48) rfl (w.heap.size + 1) Ab n cb (wt k) rfl (hown.alloc _) _ _ 1 1 [_] rfl rfl (cells_new wr [_]) (by omega) (by simp; omega) ?_; intro A2' x2 w2 hown2 hbl2; have hb2 := (hB.alloc hs _).trans hbl2; obtain ⟨p0, p1, p2, p3⟩ := hF.below hb2 (Nat.lt_succ_self _); have d2 : w2.cell? ⟨bv, offv + k, none⟩ = some (.slice A2 y.length c2) := (hb2.cell (p := ⟨bv, offv + k, none⟩) hbvz).trans hcv))
        have hs2 : w.heap.size + 1 ≤ w2.heap.size := by have := hb2.size; have := HWZ.out; omega
        refine (rbig2_any (y.length : Int) w2 (by omega) (by omega)).mono ?_
        rintro e w3 ⟨A3, rfl, hc3, hb3⟩
        have hB3 := hb2.trans (hb3.mono hs2)
        have hs3 : w.heap.size + 1 ≤ w3.heap.size := by have := hB3.size; have := HWZ.out; omega
        have hown3 := hown2.below hb3
        clear p0 p1 p2 p3 c0 c1 c3 c4 d1 d2 hb2 hb3 hown2
        go_wp2_with (first
          | (at_builtin; refine appN_any rfl (.tmp 52) (.tmp 59) rfl (w.heap.size + 1) A2' (n + 1) x2 _ rfl hown3 _ _ 2 2 (be16 (y.length : Int)) rfl rfl hc3 (by omega) hs3 ?_; intro A4 x4 w4 hown4 hbl4; have hb4 := hB3.trans hbl4; obtain ⟨p0, p1, p2, p3⟩ := hF.below hb4 (Nat.lt_succ_self _); have d1 : w4.cell? ⟨b, off + k, none⟩ = some (.slice A' x.length c) := (hb4.cell (p := ⟨b, off + k, none⟩) hbz).trans hc; have hs4 : w.heap.size + 1 ≤ w4.heap.size := Nat.le_trans hs3 hbl4.size; have hclx := hclW.below hb4)
          | (at_builtin; refine appN_any rfl (.tmp 61) (.tmp 66) rfl (w.heap.size + 1) A4 (n + 1 + 2) x4 _ rfl hown4 _ _ c x.length x rfl rfl hclx (by omega) hs4 ?_; intro A5 x5 w5 hown5 hbl5; have hb5 := hb4.trans hbl5; obtain ⟨q0, q1, q2, q3⟩ := hF.below hb5 (Nat.lt_succ_self _); have d2 : w5.cell? ⟨bv, offv + k, none⟩ = some (.slice A2 y.length c2) := (hb5.cell (p := ⟨bv, offv + k, none⟩) hbvz).trans hcv; have hs5 : w.heap.size + 1 ≤ w5.heap.size := Nat.le_trans hs4 hbl5.size; have hclv5 := hclvW.below hb5)
          | (at_builtin; refine appN_any rfl (.tmp 70) (.tmp 75) rfl (w.heap.size + 1) A5 (n + 1 + 2 + x.length) x5 _ rfl hown5 _ _ c2 y.length y rfl rfl hclv5 (by omega) hs5 ?_; intro A6 x6 w6 hown6 hbl6; have hb6 := hb5.trans hbl6))
        go_roundw
        case rel => exact ⟨k + 1, _, _, _, by go_num, by omega, rfl, own_as hown6 HSK.out.symm, hb6⟩
        case measure => simp [intOf]; omega
      · have hke : k = ks.length := by omega
        subst hke
        have hnl := hown.len_
        have hpl := HPL.out
        rw [← hnl] at hpl
        have HNL := Lib.hid hnl
        clear hnl
        have hown0 : Own wr (w.heap.size + 1) (.slice Ab n cb) (wt ks.length ++ zerosL 0) := by rw [show zerosL 0 = [] from rfl, List.append_nil]; exact hown
        go_wp2
        go_loopw [4] (fun b wr => ∃ (j m : Nat) (A : Option Addr) (c : Nat), b = .slice A m c ∧ Own wr (w.heap.size + 1) (.slice A m c) (wt ks.length ++ zerosL j) ∧ Hid (m = n + j) ∧ m ≤ 1024 ∧ Below (w.heap.size + 1) W wr)
          (fun b _ => 1024 - lenOf b)
        case atStart => exact ⟨0, n, _, _, rfl, hown0, Lib.hid rfl, hpl, hB⟩
        case round =>
          obtain ⟨j, m, Ab', cb', rfl, hownj, HM, hm, hBj⟩ := hrel
          have hsj : w.heap.size + 1 ≤ wr.heap.size := by have := hBj.size; have := HWZ.out; omega
          by_cases hmlt : m < 1024
          · have hmI : (m : Int) < 1024 := by omega
            go_wp2_with (first | (at_builtin; refine appN_any rfl (.tmp 89) (.tmp 90) rfl (w.heap.size + 1) Ab' m cb' _ rfl (hownj.alloc _) _ _ 1 1 [0] rfl rfl (cells_new _ [0]) (by omega) (by simp; omega) ?_; intro A6 x6 w6 hown6 hbl6; have hb6 := (hBj.alloc hsj _).trans hbl6))
            go_roundw
            case rel => exact ⟨j + 1, m + 1, _, _, rfl, own_as hown6 (by rw [zerosL_succ, List.append_assoc]), Lib.hid (by rw [HM.out]; rfl), by omega, hb6⟩
            case measure => simp [lenOf]; omega
          · have hmI : ¬ (m : Int) < 1024 := by omega
            have HOWN : Hid (Own wr (w.heap.size + 1) (.slice Ab' m cb') PG) := Lib.hid (own_as hownj (by
              rw [HPG.out]
              have e1 := HM.out
              have e2 := HNL.out
              rw [show 1024 - (wt ks.length).length = j by omega]))
            go_wp2
            go_ret2
            exact ⟨⟨_, rfl, HOWN.out.mono (Nat.le_succ _)⟩, hB0.trans (hBj.mono (Nat.le_succ _))⟩
end Go.Proofs.Ytbngcinhjoigaaa
