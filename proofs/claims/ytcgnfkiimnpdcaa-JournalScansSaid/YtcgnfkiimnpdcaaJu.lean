/-
  The contract of munimentref07.Sectors.
-/
import Derived.Test.YtcgnfkiimnpdcaaJt
set_option linter.unusedVariables false
namespace Go.Proofs.Ytcgnfkiimnpdcaa
open Go.RowKit

/-- The sectors of a record. -/
def secsOf (E : Int) (at_ num : Nat) (b : List Int) (k : Nat) : List (List Int) := (List.range k).map fun p => jsec E (at_ + p) num p b
theorem secsOf_succ (E : Int) (at_ num : Nat) (b : List Int) (k : Nat) : secsOf E at_ num b (k + 1) = secsOf E at_ num b k ++ [jsec E (at_ + k) num k b] := by
  unfold secsOf
  rw [List.range_succ, List.map_append]
  rfl
theorem secsOf_len (E : Int) (at_ num : Nat) (b : List Int) (k : Nat) : (secsOf E at_ num b k).length = k := by simp [secsOf]
theorem zer_succ (m : Nat) : zer m ++ [0] = zer (m + 1) := by
  unfold zer
  rw [List.replicate_succ']

set_option maxRecDepth 8000 in
set_option maxHeartbeats 8000000 in
theorem rsectors_any (E : Int) (at_ num : Nat) (A : Option Addr) (b : List Int) (c : Nat) (w : World) (h0 : 0 ≤ E) (h1 : E ≤ 18446744073709551615) (hat : at_ ≤ 65536) (hnum : num ≤ 100000) (hbl : b.length ≤ 100000) (hbc : b.length ≤ c) (hcm : c ≤ 9223372036854775807) (hc : Cells w w.heap.size A (U8 b)) (hob : Oct b) :
    Calls Try.prog 31 #[.int .u64 E, .int .i64 at_, .int .i64 num, .slice A b.length c] w fun e w' => ∃ v, e = .returned v ∧ OwnR w' w.heap.size v (secsOf E at_ num b (partsN b.length)) ∧ Below w.heap.size w w' := by
  have hNb : partsN b.length ≤ 65535 := by unfold partsN; omega
  have hplt : ∀ k, k < partsN b.length → 234 * k < b.length := fun k => partsN_lt
  obtain ⟨q, hq⟩ : ∃ q : Nat, partsN b.length = q := ⟨_, rfl⟩
  have HP : Hid (∀ w : World, Calls Try.prog 30 #[.int .i64 b.length] w fun e w' => e = .returned (.int .i64 q) ∧ w = w') := Lib.hid fun w => by
    have := rparts_any b.length w (by omega)
    rw [hq] at this
    exact this
  rw [hq] at hNb hplt ⊢
  have HQ := Lib.hid hq
  have HPL := Lib.hid hplt
  clear hq hplt
  go_enter Try.func31, Try.ntmps31
  go_wp2
  go_loopw [9, 10] (fun vo vp wr => ∃ k : Nat, vp = .int .i64 k ∧ k ≤ q ∧ OwnR wr w.heap.size vo (secsOf E at_ num b k) ∧ Below w.heap.size w wr) (fun _ vp _ => q - (intOf vp).toNat)
  case atStart => exact ⟨0, rfl, by omega, OwnR.nil _ _, Below.refl _ _⟩
  case round =>
    obtain ⟨k, rfl, hk, hown, hB⟩ := hrel
    obtain ⟨wx, hwx⟩ : ∃ x, x = wr := ⟨_, rfl⟩
    subst hwx
    obtain ⟨Ao, co, vs, e9, hoc, hom, hvl, hrow, hrows⟩ := hown.len
    rw [secsOf_len] at e9
    subst e9
    have hsz := hB.size
    clear hvl hrow hrows hoc hom
    by_cases hlt : k < q
    · have hp1 := HPL.out k hlt
      have hpl := plen_le b k
      have hpz : plen b k ≤ b.length - 234 * k := by rw [plen_eq]; omega
      have hpp : 1 ≤ plen b k := by rw [plen_eq]; omega
      have hmt0 : (min (b.length : Int) (234 * (k : Int) + 234)).toNat - 234 * k = plen b k := by rw [plen_eq]; omega
      obtain ⟨bk, off, rfl, hbk, _⟩ := hc.u8 (Nat.lt_of_le_of_lt (Nat.zero_le _) hp1)
      have hsub : Cells w w.heap.size (some ⟨bk, off + 234 * k, none⟩) (U8 (piece b k)) := (hc.subU _).takeU _
      obtain ⟨m, hm⟩ : ∃ m : Nat, plen b k = m := ⟨_, rfl⟩
      rw [hm] at hpl hpz hpp hmt0
      have HM : Hid ((piece b k).length = m) := Lib.hid hm
      have HM' : Hid (plen b k = m) := Lib.hid hm
      have hmt := hmt0
      clear hm hmt0
      have hB0 := Below.refl wx.heap.size wx
      go_wp2_with (go_at_call 30; refine (HP.out _).mono ?_; rintro e w4 ⟨rfl, rfl⟩)
      refine (big_any E wx h0 h1).mono ?_
      rintro e w1 ⟨rfl, rfl⟩
      have hb1 : Below wx.heap.size wx (wx.alloc (.cells (U8 (be64 E)).toArray 5)) := (Below.refl _ _).alloc (Nat.le_refl _) _
      have hc1 := (cells_new wx (be64 E)).whole
      obtain ⟨w1, hw1⟩ : ∃ w1, w1 = wx.alloc (.cells (U8 (be64 E)).toArray 5) := ⟨_, rfl⟩
      rw [← hw1] at hb1 hc1 ⊢
      clear hw1
      have hs1 := hb1.size
      go_wp2_with (at_builtin; refine app_any rfl (.tmp 30) (.tmp 32) rfl wx.heap.size _ [] rfl (Own.nil _ _) w1.heap.size (some ⟨wx.heap.size, 0, none⟩) 8 (be64 E) rfl hc1 (by simp [be64_len]) hs1 ?_; intro v2 w2 hown2 hg2; have hB2 := hb1.trans (hg2.below (Own.nil _ _) hs1); have hs2 := hB2.size)
      refine (rbig4_any ((at_ : Int) + (k : Int)) w2 (by omega) (by omega)).mono ?_
      rintro e w3 ⟨A3, rfl, hc3, hb3⟩
      have hB3 := hB2.trans (hb3.mono hB2.size)
      have hs3 := hB3.size
      have hown3 := hown2.below hb3
      go_wp2_with (first | (go_at_call 30; refine (HP.out _).mono ?_; rintro e w4 ⟨rfl, rfl⟩) | (at_builtin; refine app_any rfl (.tmp 34) (.tmp 38) rfl wx.heap.size _ _ rfl hown3 w3.heap.size A3 4 (be32 ((at_ : Int) + (k : Int))) rfl hc3 (by simp [be64_len, be32_len]) hs3 ?_; intro v4 w4 hown4 hg4; have hB4 := hB3.trans (hg4.below hown3 hs3); have hs4 := hB4.size))
      refine (rbig4_any num w4 (by omega) (by omega)).mono ?_
      rintro e w5 ⟨A5, rfl, hc5, hb5⟩
      have hB5 := hB4.trans (hb5.mono hB4.size)
      have hs5 := hB5.size
      have hown5 := hown4.below hb5
      go_wp2_with (first | (go_at_call 30; refine (HP.out _).mono ?_; rintro e w4 ⟨rfl, rfl⟩) | (at_builtin; refine app_any rfl (.tmp 40) (.tmp 42) rfl wx.heap.size _ _ rfl hown5 w5.heap.size A5 4 (be32 num) rfl hc5 (by simp [be64_len, be32_len]) hs5 ?_; intro v6 w6 hown6 hg6; have hB6 := hB5.trans (hg6.below hown5 hs5); have hs6 := hB6.size))
      refine (rbig2_any k w6 (by omega) (by omega)).mono ?_
      rintro e w7 ⟨A7, rfl, hc7, hb7⟩
      have hB7 := hB6.trans (hb7.mono hB6.size)
      have hs7 := hB7.size
      have hown7 := hown6.below hb7
      go_wp2_with (first | (go_at_call 30; refine (HP.out _).mono ?_; rintro e w4 ⟨rfl, rfl⟩) | (at_builtin; refine app_any rfl (.tmp 44) (.tmp 46) rfl wx.heap.size _ _ rfl hown7 w7.heap.size A7 2 (be16 k) rfl hc7 (by simp [be64_len, be32_len, be16_len]) hs7 ?_; intro v8 w8 hown8 hg8; have hB8 := hB7.trans (hg8.below hown7 hs7); have hs8 := hB8.size))
      refine (rbig2_any q w8 (by omega) (by omega)).mono ?_
      rintro e w9 ⟨A9, rfl, hc9, hb9⟩
      have hB9 := hB8.trans (hb9.mono hB8.size)
      have hs9 := hB9.size
      have hown9 := hown8.below hb9
      go_wp2_with (first | (go_at_call 30; refine (HP.out _).mono ?_; rintro e w4 ⟨rfl, rfl⟩) | (at_builtin; refine app_any rfl (.tmp 48) (.tmp 52) rfl wx.heap.size _ _ rfl hown9 w9.heap.size A9 2 (be16 q) rfl hc9 (by simp [be64_len, be32_len, be16_len]) hs9 ?_; intro v10 w10 hown10 hg10; have hB10 := hB9.trans (hg10.below hown9 hs9); have hs10 := hB10.size))
      refine (rbig2_any m w10 (by omega) (by omega)).mono ?_
      rintro e w11 ⟨A11, rfl, hc11, hb11⟩
      have hB11 := hB10.trans (hb11.mono hB10.size)
      have hs11 := hB11.size
      have hown11 := hown10.below hb11
      have HLL : Hid (jhead E (at_ + k) num k q m = [] ++ be64 E ++ be32 ((at_ : Int) + (k : Int)) ++ be32 num ++ be16 k ++ be16 q ++ be16 m) := Lib.hid (by unfold jhead; rw [List.nil_append, show ((at_ + k : Nat) : Int) = (at_ : Int) + (k : Int) by omega])
      have hjl := jhead_len E (at_ + k) num k q m
      have hpl2 := HM.out
      go_wp2_with (first | (at_builtin; refine app_any rfl (.tmp 54) (.tmp 57) rfl wx.heap.size _ _ rfl hown11 w11.heap.size A11 2 (be16 m) rfl hc11 (by simp [be64_len, be32_len, be16_len]) hs11 ?_; intro vh wh hownh hgh; have hBh := hB11.trans (hgh.below hown11 hs11); have hsh := hBh.size; rw [← HLL.out] at hownh; have hcp := ((hsub.below hB).below (hBh.mono hsz)).whole) | (at_builtin; refine app_any rfl (.tmp 59) (.tmp 60) rfl wx.heap.size _ (jhead E (at_ + k) num k q m) rfl hownh wh.heap.size (some ⟨bk, off + 234 * k, none⟩) (c - 234 * k) (piece b k) (by rw [hpl2]; rfl) hcp (by rw [hjl, hpl2]; omega) hsh ?_; intro vp wp hownp hgp; have hBp := hBh.trans (hgp.below hownh hsh); have hsp := hBp.size))
      obtain ⟨Av, cv, ev, hv1, hv2, _⟩ := hownp.shape
      subst ev
      have hLl : (jhead E (at_ + k) num k q m ++ piece b k).length = 22 + m := by rw [List.length_append, hjl, hpl2]
      obtain ⟨L0, hL0⟩ : ∃ L0, jhead E (at_ + k) num k q m ++ piece b k = L0 := ⟨_, rfl⟩
      rw [hL0] at hownp hLl hv1 ⊢
      have HL0 := Lib.hid hL0
      have HLl := Lib.hid hLl
      have HOWN : Hid (OwnR wx w.heap.size (.slice Ao k co) (secsOf E at_ num b k)) := Lib.hid hown
      clear hL0 hLl hjl hpl2 hown
      go_loopw [12] (fun vs wr => ∃ (x n : Nat) (Ai : Option Addr) (ci : Nat), vs = .slice Ai n ci ∧ n ≤ 256 ∧ Hid (n = 22 + m + x) ∧ Own wr wx.heap.size vs (L0 ++ zer x) ∧ Below wx.heap.size wx wr) (fun vs _ => 256 - lenOf vs)
      case atStart => exact ⟨0, L0.length, Av, cv, rfl, by have := HLl.out; omega, Lib.hid (by have := HLl.out; omega), own_as hownp (by simp [zer]), hBp⟩
      case round =>
        obtain ⟨x, n, Ai, ci, rfl, hn, HN, hownx, hBx⟩ := hrel
        have hsx := hBx.size
        by_cases hlt2 : n < 256
        · have g2 : (n : Int) < 256 := by omega
          have hlx : (L0 ++ zer x).length + 1 ≤ 140737488355328 := by rw [List.length_append, zer_len]; have := HLl.out; have := HN.out; omega
          go_wp2_with (at_builtin; refine app_one rfl (.tmp 65) (.tmp 66) rfl wx.heap.size _ _ 0 rfl hownx rfl hlx hsx ?_; intro v9 w9 hown9 hg9; have hB9 := hBx.trans (hg9.below hownx hsx))
          have hown9' := own_as hown9 (show _ = L0 ++ zer (x + 1) by rw [List.append_assoc, zer_succ])
          obtain ⟨A9, c9, e9, h91, h92, _⟩ := hown9'.shape
          subst e9
          go_roundw
          case rel => exact ⟨x + 1, _, A9, c9, rfl, by rw [List.length_append, zer_len]; have := HLl.out; have := HN.out; omega, Lib.hid (by rw [List.length_append, zer_len]; have := HLl.out; omega), hown9', hB9⟩
          case measure => simp only [lenOf]; rw [List.length_append, zer_len]; have := HLl.out; have := HN.out; omega
        · have g2 : ¬ (n : Int) < 256 := by omega
          have hx : x = 234 - m := by have := HN.out; omega
          have HSE : Hid (L0 ++ zer x = jsec E (at_ + k) num k b) := Lib.hid (by
            rw [← HL0.out, hx]
            unfold jsec
            rw [HM'.out, HQ.out])
          have hn' : n = (jsec E (at_ + k) num k b).length := by rw [jsec_len]; omega
          rw [HSE.out] at hownx
          clear hx
          have hoN := HOWN.out.below hBx
          obtain ⟨vs4, hr4, hv4⟩ := hoN
          have hl4 := hv4.len
          rw [hl4, secsOf_len] at hr4
          have hr4' := World.ownsRow.alloc hr4 (.cells #[.slice Ai n ci] 27)
          have HL4 := Lib.hid hl4
          have HNJ := Lib.hid hn'
          clear hl4 hn'
          go_wp2_with (at_builtin; refine appG_anyS Try.underlying22 info_rows rfl (by decide) rfl (.tmp 68) (.tmp 70) rfl w.heap.size _ k vs4 rfl hr4' _ _ 1 1 [.slice Ai n ci] rfl (cells_blk wr _ _) (by simp) (by intro u hu; simp at hu; subst hu; rfl) (by unfold maxLen; omega) (by omega) (by simp; omega) ?_; intro A6 c6 w6 hrow6 hg6)
          have hba : Below wr.heap.size wr (wr.alloc (.cells #[.slice Ai n ci] 27)) := (Below.refl _ _).alloc (Nat.le_refl _) _
          have hbg := grew_low hg6 hr4' (by simp; omega)
          have hrv : RowV wr (.slice Ai n ci) (jsec E (at_ + k) num k b) := by
            have hnj := HNJ.out
            rw [hnj] at hownx ⊢
            exact hownx.rowV (jsec_oct _ _ _ _ _ hob)
          have hsl := secsOf_len E at_ num b k
          have hownN : OwnR w6 w.heap.size (.slice A6 (k + 1) c6) (secsOf E at_ num b (k + 1)) := by
            rw [secsOf_succ]
            have hnj := HNJ.out
            rw [hnj] at hrow6 hrv hr4' hg6 hba
            exact OwnR.snoc (by rw [hsl]; exact hr4') (hv4.keep (BK.of_below hba)) (hrv.keep (BK.of_below hba)) (by rw [hsl]; exact hrow6) hg6
          go_roundw
          case rel => exact ⟨k + 1, by go_num, by omega, hownN, (hB.trans (hBx.mono hsz)).trans ((hba.mono (by omega)).trans hbg)⟩
          case measure => simp [intOf]; omega
    · have hkq : k = q := by omega
      subst hkq
      go_wp2_with (go_at_call 30; refine (HP.out _).mono ?_; rintro e w4 ⟨rfl, rfl⟩)
      go_ret
      exact ⟨_, rfl, hown, hB⟩
end Go.Proofs.Ytcgnfkiimnpdcaa
