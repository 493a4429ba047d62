/-
  The contract of node.Write: inner nodes; all nodes.
-/
import Derived.Test.YtbngcinhjoigaaaVk
set_option linter.unusedVariables false
namespace Go.Proofs.Ytbngcinhjoigaaa
open Go.RowKit

set_option maxRecDepth 8000 in
set_option maxHeartbeats 8000000 in
theorem write_inner (Ak : Option Addr) (ks : List (List Int)) (ck : Nat) (Av : Option Addr) (vs : List (List Int)) (cv : Nat) (Ai : Option Addr) (is : List Int) (ci : Nat) (w : World) (h : NodeAt w Ak ks ck Av vs cv Ai is ci) (h1 : LenLe ks 100000) (h2 : LenLe vs 100000) (h3 : ks.length ≤ 100000) (h4 : vs.length ≤ 1000000) (h5 : is.length ≤ 1000000) :
    Calls Try.prog 12 #[nodeV false Ak ks ck Av vs cv Ai is ci] w (WriteRes w (frmB false ks vs is) (pageL false ks vs is)) := by
  obtain ⟨W, hW⟩ : ∃ W, W = w.alloc (.cells #[.bool false, .slice Ak ks.length ck, .slice Av vs.length cv, .slice Ai is.length ci] 25) := ⟨_, rfl⟩
  have hF : Four W w.heap.size (.bool false) (.slice Ak ks.length ck) (.slice Av vs.length cv) (.slice Ai is.length ci) := by rw [hW]; exact Four.new w _ _ _ _ _
  have hB0 : Below w.heap.size w W := by rw [hW]; exact (Below.refl _ _).alloc (Nat.le_refl _) _
  have hWz : W.heap.size = w.heap.size + 1 := by rw [hW]; simp
  have hN := h.below hB0
  have HW := Lib.hid hW
  have HWZ := Lib.hid hWz
  have HC := Lib.hid (formed_any false Ak ks ck Av vs cv Ai is ci W hN h1 h2 h3 h4 h5)
  clear hW h hWz
  obtain ⟨N, hNN⟩ : ∃ N : Nat, N = 1024 := ⟨_, rfl⟩
  have hmk : ∀ w, (Instr.makeSlice 26 (.int .i64 0) (.int .i64 1024)).run Try.prog w = .ok (.slice (some ⟨w.heap.size, 0, none⟩) 0 N) (w.alloc (.cells (U8 (zerosL N)).toArray 5)) := by rw [hNN]; exact make1024
  have hN1 : (1024 : Int) ≤ (N : Int) := by omega
  have hN2 : N ≤ 1024 := by omega
  have HNN := Lib.hid hNN
  clear hNN
  cases hf : frmB false ks vs is with
  | false =>
    rw [hf] at HC
    clear hf
    go_enter Try.func12, Try.ntmps12
    go_wp2_with fail
    rw [← HW.out]
    refine HC.out.mono ?_
    rintro e w1 ⟨rfl, hb1⟩
    go_wp2
    go_ret2
    exact ⟨⟨_, rfl, Own.nil _ _⟩, hB0.trans (hb1.mono hB0.size)⟩
  | true =>
    rw [hf] at HC
    obtain ⟨hsh, hsz⟩ : ShapedP false ks vs is ∧ sizeTo false ks vs ks.length ≤ 1024 := by
      unfold frmB at hf
      rw [Bool.and_eq_true] at hf
      exact ⟨of_decide_eq_true hf.1, of_decide_eq_true hf.2⟩
    clear hf
    obtain ⟨hKO, _, hVO, hlen⟩ := hsh
    rw [if_neg (by decide)] at hlen
    have HKO := Lib.hid hKO
    have HVO := Lib.hid hVO
    have HLEN := Lib.hid hlen
    have H0 : Hid (wrTo false ks vs is 0 = [2] ++ be16 (ks.length : Int) ++ be32 (is.getD 0 0)) := Lib.hid (by simp [wrTo, headL])
    have HS : Hid (∀ k, wrTo false ks vs is (k + 1) = wrTo false ks vs is k ++ [((ks.getD k []).length : Int)] ++ ks.getD k [] ++ be32 (is.getD (k + 1) 0)) := Lib.hid fun k => by
      rw [wrTo, entL, if_neg (by decide)]; simp
    have HL : Hid (∀ k, k < ks.length → (wrTo false ks vs is k).length + 5 + (ks.getD k []).length ≤ 1024) := Lib.hid fun k hk => by
      have a1 := wrTo_len false ks vs is k
      have a2 := sizeTo_mono false ks vs (show k + 1 ≤ ks.length by omega)
      rw [sizeTo] at a2
      have a3 : entN false ks vs k = 5 + (ks.getD k []).length := rfl
      omega
    have HPG : Hid (pageL false ks vs is = wrTo false ks vs is ks.length ++ zerosL (1024 - (wrTo false ks vs is ks.length).length)) := Lib.hid (by rw [wrTo_len]; rfl)
    have hks : ks.length ≤ 1024 := by
      have := sizeTo_mono false ks vs (Nat.zero_le ks.length)
      have : ∀ k, k ≤ sizeTo false ks vs k := fun k => by
        induction k with
        | zero => exact Nat.zero_le _
        | succ k ih =>
          rw [sizeTo]
          have : entN false ks vs k = 5 + (ks.getD k []).length := rfl
          omega
      have := this ks.length
      omega
    clear hKO hVO hlen hsz
    generalize pageL false ks vs is = PG at *
    generalize wrTo false ks vs is = wt at *
    go_enter Try.func12, Try.ntmps12
    go_wp2_with fail
    rw [← HW.out]
    refine HC.out.mono ?_
    clear HC
    rintro e w1 ⟨rfl, hb1⟩
    have hs1 : w.heap.size + 1 ≤ w1.heap.size := by have := hb1.size; have := HWZ.out; omega
    have hb1' : Below (w.heap.size + 1) W w1 := by rw [← HWZ.out]; exact hb1
    obtain ⟨c0, c1, c3, c4⟩ := hF.below hb1' (Nat.lt_succ_self _)
    have hz1 := OwnZ.new w1 (w.heap.size + 1) N hs1
    have hb1z : Below (w.heap.size + 1) W (w1.alloc (.cells (U8 (zerosL N)).toArray 5)) := hb1'.alloc hs1 _
    have hs2 : w.heap.size < w1.heap.size := by omega
    clear hb1
    go_wp2_with (first | (at_builtin; refine appZ_any rfl (.tmp 16) (.tmp 17) rfl (w.heap.size + 1) w1.heap.size N 0 [] rfl (hz1.alloc _) _ _ 1 1 [2] rfl rfl (cells_second w1 _ [2]) (by omega) ?_; intro w2 hown2 hg2; have hb2 := hz1.stepA hb1z hg2; obtain ⟨p0, p1, p2, p3⟩ := hF.below hb2 (Nat.lt_succ_self _)))
    have hz2 : OwnZ w2 (w.heap.size + 1) w1.heap.size N 1 [2] := hown2
    generalize w1.heap.size = g at *
    refine (append16_z (w.heap.size + 1) g N 1 [2] (ks.length : Int) w2 (by omega) (by omega) hz2 (by omega)).mono ?_
    rintro e w3 ⟨rfl, hz3, hg3⟩
    have hb3 := hz2.stepG hb2 hg3
    clear p0 p1 p2 p3 c0 c1 c3 c4 hz1 hb1z hown2 hz2 hb2 hg2 hg3 hb1'
    obtain ⟨c0, c1, c3, c4⟩ := hF.below hb3 (Nat.lt_succ_self _)
    have hi0 : 0 < is.length := by have := HLEN.out.2; omega
    obtain ⟨bi, oi, rfl, hbi, hci⟩ := hN.kids.i8 hi0
    have hmi := HVO.out.at_ hi0
    have hbiz : bi < w.heap.size + 1 := by rw [← HWZ.out]; exact hbi
    have HGI : Hid (is.getD 0 0 = is[0]) := Lib.hid (by rw [List.getD_eq_getElem?_getD, List.getElem?_eq_getElem hi0]; rfl)
    rw [Nat.add_zero] at hci
    generalize is[0] = m at *
    obtain ⟨hm0, hm1⟩ := hmi
    have hi0I : (0 : Int) < (is.length : Int) := by omega
    have d0 : w3.cell? ⟨bi, oi, none⟩ = some (.int .i64 m) := (hb3.cell (p := ⟨bi, oi, none⟩) hbiz).trans hci
    have hfit0 : 7 ≤ N := by have := HNN.out; omega
    go_wp2_with fail
    refine (append32_z (w.heap.size + 1) g N 3 _ m w3 hm0 (by omega) hz3 (by omega)).mono ?_
    rintro e w4 ⟨rfl, hz4, hg4⟩
    have hb4 := hz3.stepG hb3 hg4
    rw [← HGI.out, ← H0.out] at hz4
    clear c0 c1 c3 c4 d0 hz3 hb3 hg4
    obtain ⟨c0, c1, c3, c4⟩ := hF.below hb4 (Nat.lt_succ_self _)
    go_wp2
    go_loopw [4, 38] (fun b i wr => ∃ k n : Nat, i = .int .i64 k ∧ k ≤ ks.length ∧ b = .slice (some ⟨g, 0, none⟩) n N ∧ OwnZ wr (w.heap.size + 1) g N n (wt k) ∧ Below (w.heap.size + 1) W wr)
      (fun _ i _ => ks.length - (intOf i).toNat)
    case atStart => exact ⟨0, 7, rfl, Nat.zero_le _, rfl, hz4, hb4⟩
    case round =>
      obtain ⟨k, n, rfl, hk, rfl, hz, hB⟩ := hrel
      clear c0 c1 c3 c4 hz4 hb4
      obtain ⟨c0, c1, c3, c4⟩ := hF.below hB (Nat.lt_succ_self _)
      by_cases hlt : k < ks.length
      · have hkI : (k : Int) < (ks.length : Int) := by omega
        have hlv : k + 1 < is.length := by have := HLEN.out.2; omega
        have hkv : (k : Int) + 1 < (is.length : Int) := by omega
        have hfit := HL.out k hlt
        have hnl := hz.len
        have hNE := HNN.out
        have hfk : n + 5 + (ks.getD k []).length ≤ N := by omega
        clear hfit hnl hNE
        have HSK := Lib.hid (HS.out k)
        have hx1 := (HKO.out k hlt).2.1
        have hBw : Below W.heap.size W wr := by rw [HWZ.out]; exact hB
        obtain ⟨b, off, A', c, rfl, hb, hc, hcl, hoc, _⟩ := hN.keys k hlt
        obtain ⟨bv, offv, eiv, hbv, hcv⟩ := hN.kids.i8 hlv
        injection eiv with eiv
        injection eiv with eiv1 eiv2
        subst eiv1 eiv2
        have hmk1 := HVO.out.at_ hlv
        rw [getD_at hlt] at HSK hfk hx1
        rw [show is.getD (k + 1) 0 = is[k + 1] by rw [List.getD_eq_getElem?_getD, List.getElem?_eq_getElem hlv]; rfl] at HSK
        generalize ks[k] = x at *
        generalize is[k + 1] = y at *
        obtain ⟨hy0, hy1⟩ := hmk1
        have hbz : b < w.heap.size + 1 := by rw [← HWZ.out]; exact hb
        have d1 : wr.cell? ⟨b, off + k, none⟩ = some (.slice A' x.length c) := (hB.cell (p := ⟨b, off + k, none⟩) hbz).trans hc
        have hclW : Cells W (w.heap.size + 1) A' (U8 x) := by rw [← HWZ.out]; exact hcl
        have hs3 := hz.base_le
        go_wp2_with (first | (at_builtin; refine appZ_any rfl (.tmp 43) (.tmp 47) rfl (w.heap.size + 1) g N n (wt k) rfl (hz.alloc _) _ _ 1 1 [_] rfl rfl (cells_new wr [_]) (by omega) ?_; intro w3 hown3 hg3; have hb3 := hz.stepA hB hg3; obtain ⟨p0, p1, p2, p3⟩ := hF.below hb3 (Nat.lt_succ_self _); have d2 : w3.cell? ⟨bi, oi + (k + 1), none⟩ = some (.int .i64 y) := (hb3.cell (p := ⟨bi, oi + (k + 1), none⟩) hbiz).trans hcv; have hs3 := hown3.base_le; have hclx := hclW.below hb3))
        have HA : Hid (∀ (w4 : World) (l : List Int), OwnZ w4 (w.heap.size + 1) g N (n + 1 + x.length) l → Calls Try.prog 27 #[.slice (some ⟨g, 0, none⟩) (n + 1 + x.length) N, .int .u32 y] w4 fun e w' => e = .returned (.slice (some ⟨g, 0, none⟩) (n + 1 + x.length + 4) N) ∧ OwnZ w' (w.heap.size + 1) g N (n + 1 + x.length + 4) (l ++ be32 y) ∧ w4.grownBy w' (some g)) := Lib.hid fun w4 l hz => append32_z (w.heap.size + 1) g N (n + 1 + x.length) l y w4 hy0 (by omega) hz (by omega)
        have hwk : IntKind.i64.wrap ((k : Int) + 1) = (k : Int) + 1 := by rw [IntKind.wrap_i64]; omega
        have hk0 : (0 : Int) ≤ (k : Int) + 1 := by omega
        have hwy : IntKind.u32.wrap y = y := by rw [IntKind.wrap_u32]; omega
        have htn : ((k : Int) + 1).toNat = k + 1 := by omega
        go_region_held3 (fun w' => w'.cell? ⟨w.heap.size, 3, none⟩ = some (.slice (some ⟨bi, oi, none⟩) is.length ci) ∧ w'.cell? ⟨bi, oi + (k + 1), none⟩ = some (.int .i64 y)) (go_keep)
          (first
            | (refine appZ_step rfl (.tmp 69) (.tmp 70) rfl (w.heap.size + 1) g N (n + 1) _ rfl (by exact hown3.drew) _ _ c x.length x rfl rfl (by exact hclx.drew) (by omega) ?_; intro w4 hown4 hg4; have hb4 := hown3.drew.below hg4 hs3; have z1 : w4.cell? ⟨w.heap.size, 3, none⟩ = some (.slice (some ⟨bi, oi, none⟩) is.length ci) := (hb4.cell (p := ⟨w.heap.size, 3, none⟩) (Nat.lt_succ_self _)).trans p3; have z2 : w4.cell? ⟨bi, oi + (k + 1), none⟩ = some (.int .i64 y) := (hb4.cell (p := ⟨bi, oi + (k + 1), none⟩) hbiz).trans d2)
            | (go_at_call 27; refine (HA.out _ _ hown4).mono ?_; rintro e w5 ⟨rfl, hown5, hg5⟩; have hb5 := hown4.below hg5 hown4.base_le; have z3 : w5.cell? ⟨w.heap.size, 3, none⟩ = some (.slice (some ⟨bi, oi, none⟩) is.length ci) := (hb5.cell (p := ⟨w.heap.size, 3, none⟩) (Nat.lt_succ_self _)).trans z1; have z4 : w5.cell? ⟨bi, oi + (k + 1), none⟩ = some (.int .i64 y) := (hb5.cell (p := ⟨bi, oi + (k + 1), none⟩) hbiz).trans z2))
        all_goals
          have hBF := (hb3.drew.trans hb4).trans hb5
          clear hwk hk0 htn hwy
          go_wp2
          go_roundw
          case rel => exact ⟨k + 1, _, by go_num, by omega, rfl, hown5.as HSK.out.symm, hBF⟩
          case measure => simp [intOf]; omega
      · have hke : k = ks.length := by omega
        subst hke
        have hnl := hz.len
        have hfitN := hz.fits
        have HOWN : Hid (Own wr (w.heap.size + 1) (.slice (some ⟨g, 0, none⟩) 1024 1024) PG) := Lib.hid (by
          have hNE := HNN.out
          subst hNE
          exact hz.own (by decide) (by rw [HPG.out, hnl]))
        have HNE := Lib.hid HNN.out
        clear hnl
        go_wp2
        go_ret2
        refine ⟨⟨_, ?_, HOWN.out.mono (Nat.le_succ _)⟩, hB0.trans (hB.mono (Nat.le_succ _))⟩
        rw [HNE.out]
        rfl

theorem write_any (lf : Bool) (Ak : Option Addr) (ks : List (List Int)) (ck : Nat) (Av : Option Addr) (vs : List (List Int)) (cv : Nat) (Ai : Option Addr) (is : List Int) (ci : Nat) (w : World) (h : NodeAt w Ak ks ck Av vs cv Ai is ci) (h1 : LenLe ks 100000) (h2 : LenLe vs 100000) (h3 : ks.length ≤ 100000) (h4 : vs.length ≤ 1000000) (h5 : is.length ≤ 1000000) :
    Calls Try.prog 12 #[nodeV lf Ak ks ck Av vs cv Ai is ci] w (WriteRes w (frmB lf ks vs is) (pageL lf ks vs is)) := by
  cases lf
  · exact write_inner Ak ks ck Av vs cv Ai is ci w h h1 h2 h3 h4 h5
  · exact write_leaf Ak ks ck Av vs cv Ai is ci w h h1 h2 h3 h4 h5
end Go.Proofs.Ytbngcinhjoigaaa
