/-
  The contract of munimentref09.Write: inner nodes; all nodes.
-/
import Derived.Test.YtbngcinhjoigaaaVn
set_option linter.unusedVariables false
namespace Go.Proofs.Ytbngcinhjoigaaa
open Go.RowKit

set_option maxRecDepth 8000 in
set_option maxHeartbeats 8000000 in
theorem rwrite_inner (Ak : Option Addr) (ks : List (List Int)) (ck : Nat) (Av : Option Addr) (vs : List (List Int)) (cv : Nat) (Ai : Option Addr) (is : List Int) (ci : Nat) (w : World) (h : NodeAt w Ak ks ck Av vs cv Ai is ci) (h1 : LenLe ks 100000) (h2 : LenLe vs 100000) (h3 : ks.length ≤ 100000) (h4 : vs.length ≤ 1000000) (h5 : is.length ≤ 1000000) :
    Calls Try.prog 13 #[nodeV false Ak ks ck Av vs cv Ai is ci] w (WriteRes w (frmB false ks vs is) (pageL false ks vs is)) := by
  obtain ⟨W, hW⟩ : ∃ W, W = w.alloc (.cells #[.bool false, .slice Ak ks.length ck, .slice Av vs.length cv, .slice Ai is.length ci] 29) := ⟨_, rfl⟩
  have hF : Four W w.heap.size (.bool false) (.slice Ak ks.length ck) (.slice Av vs.length cv) (.slice Ai is.length ci) := by rw [hW]; exact Four.new w _ _ _ _ _
  have hB0 : Below w.heap.size w W := by rw [hW]; exact (Below.refl _ _).alloc (Nat.le_refl _) _
  have hWz : W.heap.size = w.heap.size + 1 := by rw [hW]; simp
  have hN := h.below hB0
  have HW := Lib.hid hW
  have HWZ := Lib.hid hWz
  have HC := Lib.hid (rformed_any false Ak ks ck Av vs cv Ai is ci W hN h1 h2 h3 h4 h5)
  clear hW h hWz
  cases hf : frmB false ks vs is with
  | false =>
    rw [hf] at HC
    clear hf
    go_enter Try.func13, Try.ntmps13
    go_wp2_with fail
    rw [← HW.out]
    refine HC.out.mono ?_
    rintro e w1 ⟨rfl, hb1⟩
    go_wp2
    go_ret2
    exact ⟨⟨_, rfl, Own.nil _ _⟩, hB0.trans (hb1.mono hB0.size)⟩
  | true =>
    rw [hf] at HC
    obtain ⟨hsh, hsz⟩ : ShapedP false ks vs is ∧ sizeTo false ks vs ks.length ≤ 1024 := by
      unfold frmB at hf
      rw [Bool.and_eq_true] at hf
      exact ⟨of_decide_eq_true hf.1, of_decide_eq_true hf.2⟩
    clear hf
    obtain ⟨hKO, _, hVO, hlen⟩ := hsh
    rw [if_neg (by decide)] at hlen
    have HKO := Lib.hid hKO
    have HVO := Lib.hid hVO
    have HLEN := Lib.hid hlen
    have H0 : Hid (wrTo false ks vs is 0 = [] ++ [2] ++ be16 (ks.length : Int) ++ be32 (is.getD 0 0)) := Lib.hid (by simp [wrTo, headL])
    have HS : Hid (∀ k, wrTo false ks vs is (k + 1) = wrTo false ks vs is k ++ [((ks.getD k []).length : Int)] ++ ks.getD k [] ++ be32 (is.getD (k + 1) 0)) := Lib.hid fun k => by
      rw [wrTo, entL, if_neg (by decide)]; simp
    have HL : Hid (∀ k, k < ks.length → (wrTo false ks vs is k).length + 5 + (ks.getD k []).length ≤ 1024) := Lib.hid fun k hk => by
      have a1 := wrTo_len false ks vs is k
      have a2 := sizeTo_mono false ks vs (show k + 1 ≤ ks.length by omega)
      rw [sizeTo] at a2
      have a3 : entN false ks vs k = 5 + (ks.getD k []).length := rfl
      omega
    have HPG : Hid (pageL false ks vs is = wrTo false ks vs is ks.length ++ zerosL (1024 - (wrTo false ks vs is ks.length).length)) := Lib.hid (by rw [wrTo_len]; rfl)
    have HPL : Hid ((wrTo false ks vs is ks.length).length ≤ 1024) := Lib.hid (by rw [wrTo_len]; exact hsz)
    clear hKO hVO hlen hsz
    generalize pageL false ks vs is = PG at *
    generalize wrTo false ks vs is = wt at *
    go_enter Try.func13, Try.ntmps13
    go_wp2_with fail
    rw [← HW.out]
    refine HC.out.mono ?_
    clear HC
    rintro e w1 ⟨rfl, hb1⟩
    have hs1 : w.heap.size + 1 ≤ w1.heap.size := by have := hb1.size; have := HWZ.out; omega
    have hb1' : Below (w.heap.size + 1) W w1 := by rw [← HWZ.out]; exact hb1
    obtain ⟨c0, c1, c3, c4⟩ := hF.below hb1' (Nat.lt_succ_self _)
    clear hb1
    go_wp2_with (first | (at_builtin; refine appN_any rfl (.tmp 14) (.tmp 15) rfl (w.heap.size + 1) none 0 0 [] rfl (Own.nil _ _) _ _ 1 1 [2] rfl rfl (cells_new w1 [2]) (by omega) (by simp; omega) ?_; intro A2 x2 w2 hown2 hbl2; have hb2 := (hb1'.alloc hs1 (.cells #[.int .u8 2] 5)).trans hbl2; obtain ⟨p0, p1, p2, p3⟩ := hF.below hb2 (Nat.lt_succ_self _)))
    have hs2 : w.heap.size + 1 ≤ w2.heap.size := by have := hb2.size; have := HWZ.out; omega
    clear c0 c1 c3 c4 hb1' hbl2
    refine (rbig2_any (ks.length : Int) w2 (by omega) (by omega)).mono ?_
    rintro e w3 ⟨A3, rfl, hc3, hb3⟩
    have hB3 := hb2.trans (hb3.mono hs2)
    have hs3 : w.heap.size + 1 ≤ w3.heap.size := by have := hB3.size; have := HWZ.out; omega
    have hown3 := hown2.below hb3
    clear p0 p1 p2 p3 hb2 hb3 hown2
    have hi0 : 0 < is.length := by have := HLEN.out.2; omega
    obtain ⟨bi, oi, rfl, hbi, hci⟩ := hN.kids.i8 hi0
    have hmi := HVO.out.at_ hi0
    have hbiz : bi < w.heap.size + 1 := by rw [← HWZ.out]; exact hbi
    have HGI : Hid (is.getD 0 0 = is[0]) := Lib.hid (by rw [List.getD_eq_getElem?_getD, List.getElem?_eq_getElem hi0]; rfl)
    rw [Nat.add_zero] at hci
    generalize is[0] = m at *
    obtain ⟨hm0, hm1⟩ := hmi
    have hi0I : (0 : Int) < (is.length : Int) := by omega
    go_wp2_with (first | (at_builtin; refine appN_any rfl (.tmp 17) (.tmp 21) rfl (w.heap.size + 1) A2 1 x2 _ rfl hown3 _ _ 2 2 (be16 (ks.length : Int)) rfl rfl hc3 (by omega) hs3 ?_; intro A4 x4 w4 hown4 hbl4; have hb4 := hB3.trans hbl4; obtain ⟨p0, p1, p2, p3⟩ := hF.below hb4 (Nat.lt_succ_self _); have d0 : w4.cell? ⟨bi, oi, none⟩ = some (.int .i64 m) := (hb4.cell (p := ⟨bi, oi, none⟩) hbiz).trans hci))
    have hs4 : w.heap.size + 1 ≤ w4.heap.size := by have := hb4.size; have := HWZ.out; omega
    refine (rbig4_any m w4 hm0 (by omega)).mono ?_
    rintro e w5 ⟨A5, rfl, hc5, hb5⟩
    have hB5 := hb4.trans (hb5.mono hs4)
    have hs5 : w.heap.size + 1 ≤ w5.heap.size := Nat.le_trans hs4 hb5.size
    have hown5 := hown4.below hb5
    clear p0 p1 p2 p3 d0
    go_wp2_with (first | (at_builtin; refine appN_any rfl (.tmp 26) (.tmp 31) rfl (w.heap.size + 1) A4 (1 + 2) x4 _ rfl hown5 _ _ 4 4 (be32 m) rfl rfl hc5 (by omega) hs5 ?_; intro A6 x6 w6 hown6 hbl6; have hb6 := hB5.trans hbl6; obtain ⟨p0, p1, p2, p3⟩ := hF.below hb6 (Nat.lt_succ_self _)))
    have hownL : Own w6 (w.heap.size + 1) (.slice A6 7 x6) (wt 0) := by rw [H0.out, HGI.out]; exact hown6
    have hBL := hb6
    clear p0 p1 p2 p3 hown4 hbl4 hc3 hown3 hB3
    obtain ⟨c0, c1, c3, c4⟩ := hF.below hBL (Nat.lt_succ_self _)
    go_wp2
    go_loopw [4, 5] (fun b i wr => ∃ (k n : Nat) (A : Option Addr) (c : Nat), i = .int .i64 k ∧ k ≤ ks.length ∧ b = .slice A n c ∧ Own wr (w.heap.size + 1) (.slice A n c) (wt k) ∧ Below (w.heap.size + 1) W wr)
      (fun _ i _ => ks.length - (intOf i).toNat)
    case atStart => exact ⟨0, _, _, _, rfl, Nat.zero_le _, rfl, hownL, hBL⟩
    case round =>
      obtain ⟨k, n, Ab, cb, rfl, hk, rfl, hown, hB⟩ := hrel
      clear c0 c1 c3 c4 hownL hBL
      obtain ⟨c0, c1, c3, c4⟩ := hF.below hB (Nat.lt_succ_self _)
      have hs : w.heap.size + 1 ≤ wr.heap.size := by have := hB.size; have := HWZ.out; omega
      by_cases hlt : k < ks.length
      · have hkI : (k : Int) < (ks.length : Int) := by omega
        have hfit := HL.out k hlt
        have hnl := hown.len_
        rw [← hnl] at hfit
        have hfk := hfit
        clear hfit hnl
        have HSK := Lib.hid (HS.out k)
        have hx1 := (HKO.out k hlt).2.1
        obtain ⟨b, off, A', c, rfl, hb, hc, hcl, hoc, _⟩ := hN.keys k hlt
        have hlv : k + 1 < is.length := by have := HLEN.out.2; omega
        have hkv : (k : Int) + 1 < (is.length : Int) := by omega
        obtain ⟨bv, offv, eiv, hbv, hcv⟩ := hN.kids.i8 hlv
        injection eiv with eiv
        injection eiv with eiv1 eiv2
        subst eiv1 eiv2
        have hmk1 := HVO.out.at_ hlv
        rw [getD_at hlt] at HSK hfk hx1
        rw [show is.getD (k + 1) 0 = is[k + 1] by rw [List.getD_eq_getElem?_getD, List.getElem?_eq_getElem hlv]; rfl] at HSK
        generalize ks[k] = x at *
        generalize is[k + 1] = y at *
        obtain ⟨hy0, hy1⟩ := hmk1
        have hbz : b < w.heap.size + 1 := by rw [← HWZ.out]; exact hb
        have d1 : wr.cell? ⟨b, off + k, none⟩ = some (.slice A' x.length c) := (hB.cell (p := ⟨b, off + k, none⟩) hbz).trans hc
        have hclW : Cells W (w.heap.size + 1) A' (U8 x) := by rw [← HWZ.out]; exact hcl
        go_wp2_with (first
          | (at_builtin; refine appN_any rfl (.tmp 40) (.tmp 48) rfl (w.heap.size + 1) Ab n cb (wt k) rfl (hown.alloc _) _ _ 1 1 [_] rfl rfl (cells_new wr [_]) (by omega) (by simp; omega) ?_; intro A2' x2 w2 hown2 hbl2; have hb2 := (hB.alloc hs _).trans hbl2; obtain ⟨p0, p1, p2, p3⟩ := hF.below hb2 (Nat.lt_succ_self _); have d2 : w2.cell? ⟨b, off + k, none⟩ = some (.slice A' x.length c) := (hb2.cell (p := ⟨b, off + k, none⟩) hbz).trans hc; have hs2 : w.heap.size + 1 ≤ w2.heap.size := Nat.le_trans (by simp; omega) hbl2.size; have hclx := hclW.below hb2)
          | (at_builtin; refine appN_any rfl (.tmp 61) (.tmp 66) rfl (w.heap.size + 1) A2' (n + 1) x2 _ rfl hown2 _ _ c x.length x rfl rfl hclx (by omega) hs2 ?_; intro A4 x4 w4 hown4 hbl4; have hb4 := hb2.trans hbl4; obtain ⟨q0, q1, q2, q3⟩ := hF.below hb4 (Nat.lt_succ_self _); have d3 : w4.cell? ⟨bi, oi + (k + 1), none⟩ = some (.int .i64 y) := (hb4.cell (p := ⟨bi, oi + (k + 1), none⟩) hbiz).trans hcv; have hs4 : w.heap.size + 1 ≤ w4.heap.size := Nat.le_trans hs2 hbl4.size))
        refine (rbig4_any y w4 hy0 (by omega)).mono ?_
        rintro e w5 ⟨A5, rfl, hc5, hb5⟩
        have hB5 := hb4.trans (hb5.mono hs4)
        have hs5 : w.heap.size + 1 ≤ w5.heap.size := Nat.le_trans hs4 hb5.size
        have hown5 := hown4.below hb5
        clear p0 p1 p2 p3 q0 q1 q2 q3 c0 c1 c3 c4 d1 d2 d3
        go_wp2_with (first | (at_builtin; refine appN_any rfl (.tmp 77) (.tmp 84) rfl (w.heap.size + 1) A4 (n + 1 + x.length) x4 _ rfl hown5 _ _ 4 4 (be32 y) rfl rfl hc5 (by omega) hs5 ?_; intro A6 x6 w6 hown6 hbl6; have hb6 := hB5.trans hbl6))
        go_roundw
        case rel => exact ⟨k + 1, _, _, _, by go_num, by omega, rfl, own_as hown6 HSK.out.symm, hb6⟩
        case measure => simp [intOf]; omega
      · have hke : k = ks.length := by omega
        subst hke
        have hnl := hown.len_
        have hpl := HPL.out
        rw [← hnl] at hpl
        have HNL := Lib.hid hnl
        clear hnl
        have hown0 : Own wr (w.heap.size + 1) (.slice Ab n cb) (wt ks.length ++ zerosL 0) := by rw [show zerosL 0 = [] from rfl, List.append_nil]; exact hown
        go_wp2
        go_loopw [4] (fun b wr => ∃ (j m : Nat) (A : Option Addr) (c : Nat), b = .slice A m c ∧ Own wr (w.heap.size + 1) (.slice A m c) (wt ks.length ++ zerosL j) ∧ Hid (m = n + j) ∧ m ≤ 1024 ∧ Below (w.heap.size + 1) W wr)
          (fun b _ => 1024 - lenOf b)
        case atStart => exact ⟨0, n, _, _, rfl, hown0, Lib.hid rfl, hpl, hB⟩
        case round =>
          obtain ⟨j, m, Ab', cb', rfl, hownj, HM, hm, hBj⟩ := hrel
          have hsj : w.heap.size + 1 ≤ wr.heap.size := by have := hBj.size; have := HWZ.out; omega
          by_cases hmlt : m < 1024
          · have hmI : (m : Int) < 1024 := by omega
            go_wp2_with (first | (at_builtin; refine appN_any rfl (.tmp 89) (.tmp 90) rfl (w.heap.size + 1) Ab' m cb' _ rfl (hownj.alloc _) _ _ 1 1 [0] rfl rfl (cells_new _ [0]) (by omega) (by simp; omega) ?_; intro A6 x6 w6 hown6 hbl6; have hb6 := (hBj.alloc hsj _).trans hbl6))
            go_roundw
            case rel => exact ⟨j + 1, m + 1, _, _, rfl, own_as hown6 (by rw [zerosL_succ, List.append_assoc]), Lib.hid (by rw [HM.out]; rfl), by omega, hb6⟩
            case measure => simp [lenOf]; omega
          · have hmI : ¬ (m : Int) < 1024 := by omega
            have HOWN : Hid (Own wr (w.heap.size + 1) (.slice Ab' m cb') PG) := Lib.hid (own_as hownj (by
              rw [HPG.out]
              have e1 := HM.out
              have e2 := HNL.out
              rw [show 1024 - (wt ks.length).length = j by omega]))
            go_wp2
            go_ret2
            exact ⟨⟨_, rfl, HOWN.out.mono (Nat.le_succ _)⟩, hB0.trans (hBj.mono (Nat.le_succ _))⟩

theorem rwrite_any (lf : Bool) (Ak : Option Addr) (ks : List (List Int)) (ck : Nat) (Av : Option Addr) (vs : List (List Int)) (cv : Nat) (Ai : Option Addr) (is : List Int) (ci : Nat) (w : World) (h : NodeAt w Ak ks ck Av vs cv Ai is ci) (h1 : LenLe ks 100000) (h2 : LenLe vs 100000) (h3 : ks.length ≤ 100000) (h4 : vs.length ≤ 1000000) (h5 : is.length ≤ 1000000) :
    Calls Try.prog 13 #[nodeV lf Ak ks ck Av vs cv Ai is ci] w (WriteRes w (frmB lf ks vs is) (pageL lf ks vs is)) := by
  cases lf
  · exact rwrite_inner Ak ks ck Av vs cv Ai is ci w h h1 h2 h3 h4 h5
  · exact rwrite_leaf Ak ks ck Av vs cv Ai is ci w h h1 h2 h3 h4 h5
end Go.Proofs.Ytbngcinhjoigaaa
