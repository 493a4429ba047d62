/-
  The contract of munimentref07.Scan.
-/
import Derived.Test.YtcgnfkiimnpdcaaJu
set_option linter.unusedVariables false
namespace Go.Proofs.Ytcgnfkiimnpdcaa
open Go.RowKit

/-- A row of the area, as it is loaded. -/
theorem row_load {w : World} {A : Option Addr} {vs : List Value} {ls : List (List Int)} (hc : Cells w w.heap.size A vs) (hr : RowsV w vs ls) (h256 : ∀ l ∈ ls, l.length = 256) {i : Nat} (hi : i < ls.length) :
    ∃ bA oA b off N c, A = some ⟨bA, oA, none⟩ ∧ bA < w.heap.size ∧ w.cell? ⟨bA, oA + i, none⟩ = some (.slice (some ⟨b, off, none⟩) N c) ∧ 256 ≤ N ∧ N ≤ 256 ∧ N ≤ c ∧ c ≤ 9223372036854775807 ∧ Cells w w.heap.size (some ⟨b, off, none⟩) (U8 (ls.getD i zeroSec)) := by
  have hv : i < vs.length := by rw [hr.len]; exact hi
  obtain ⟨A', c, e, hb, h1, h2, ho⟩ := hr.at_ i hv hi
  have hl : (ls[i]).length = 256 := h256 _ (List.getElem_mem hi)
  obtain ⟨bA, oA, rfl, hlt, hcell⟩ := hc i _ (List.getElem?_eq_getElem hv)
  obtain ⟨b, off, rfl, _⟩ := hb.1.u8 (k := 0) (by omega)
  rw [e] at hcell
  refine ⟨bA, oA, b, off, _, c, rfl, hlt, hcell, by omega, by omega, h1, h2, ?_⟩
  rw [List.getD_eq_getElem?_getD, List.getElem?_eq_getElem hi]
  exact hb.1
theorem RowsV.octs {w : World} : ∀ {vs : List Value} {ls : List (List Int)}, RowsV w vs ls → ∀ l ∈ ls, Oct l
  | [], [], _, l, hl => by cases hl
  | v :: vs, x :: ls, h, l, hl => by
    rcases List.mem_cons.1 hl with rfl | hl
    · obtain ⟨_, _, _, _, _, _, ho⟩ := h.1
      exact ho
    · exact h.2.octs l hl
  | [], _ :: _, h, _, _ => h.elim
  | _ :: _, [], h, _, _ => h.elim
theorem zeroSec_ok : zeroSec.length = 256 ∧ Oct zeroSec := ⟨by kernel_rfl, fun x hx => by
  have : x = 0 := List.eq_of_mem_replicate (n := 256) (by exact hx)
  omega⟩
theorem rows_ok {w : World} {vs : List Value} {ls : List (List Int)} (hr : RowsV w vs ls) (h256 : ∀ l ∈ ls, l.length = 256) (k : Nat) : (ls.getD k zeroSec).length = 256 ∧ Oct (ls.getD k zeroSec) := by
  rw [List.getD_eq_getElem?_getD]
  rcases Nat.lt_or_ge k ls.length with h | h
  · rw [List.getElem?_eq_getElem h]
    exact ⟨h256 _ (List.getElem_mem h), hr.octs _ (List.getElem_mem h)⟩
  · rw [List.getElem?_eq_none h]
    exact zeroSec_ok

set_option maxRecDepth 8000 in
set_option maxHeartbeats 16000000 in
theorem rscan_any (A : Option Addr) (ls : List (List Int)) (vs : List Value) (c : Nat) (E : Int) (w : World) (hcl : Cells w w.heap.size A vs) (hrv : RowsV w vs ls) (h256 : ∀ l ∈ ls, l.length = 256) (hcnt : ls.length ≤ 1000) (hE0 : 0 ≤ E) (hE1 : E ≤ 18446744073709551615) :
    Calls Try.prog 12 #[.slice A ls.length c, .int .u64 E] w fun e w' => ∃ v, e = .returned v ∧ OwnR w' w.heap.size v (scanF (fun i => ls.getD i zeroSec) ls.length E (ls.length + 1) 0 0) ∧ Below w.heap.size w w' := by
  obtain ⟨R, hR⟩ : ∃ R : Nat → List Int, R = fun i => ls.getD i zeroSec := ⟨_, rfl⟩
  rw [← hR]
  have HRl : Hid (∀ k, (R k).length = 256 ∧ Oct (R k)) := Lib.hid fun k => by rw [hR]; exact rows_ok hrv h256 k
  have HLD : Hid (∀ i, i < ls.length → ∃ bA oA b off N c, A = some ⟨bA, oA, none⟩ ∧ bA < w.heap.size ∧ w.cell? ⟨bA, oA + i, none⟩ = some (.slice (some ⟨b, off, none⟩) N c) ∧ 256 ≤ N ∧ N ≤ 256 ∧ N ≤ c ∧ c ≤ 9223372036854775807 ∧ Cells w w.heap.size (some ⟨b, off, none⟩) (U8 (R i))) := Lib.hid fun i hi => by rw [hR]; exact row_load hcl hrv h256 hi
  clear hR hcl hrv h256
  obtain ⟨cnt, hcn⟩ : ∃ cnt, ls.length = cnt := ⟨_, rfl⟩
  rw [hcn] at hcnt HLD ⊢
  clear hcn
  have HP : Hid (∀ (n : Nat) (w : World), n ≤ 10000000 → Calls Try.prog 30 #[.int .i64 n] w fun e w' => e = .returned (.int .i64 (partsN n)) ∧ w = w') := Lib.hid fun n w hn => rparts_any n w (by omega)
  have HP35 : Hid (∀ w : World, Calls Try.prog 30 #[.int .i64 8000] w fun e w' => e = .returned (.int .i64 35) ∧ w = w') := Lib.hid fun w => HP.out 8000 w (by omega)
  go_enter Try.func12, Try.ntmps12
  go_wp2
  go_loopw [5, 6] (fun vo va wr => ∃ (at_ f : Nat) (acc : List (List Int)), va = .int .i64 at_ ∧ at_ ≤ cnt ∧ cnt < f + at_ ∧ acc.length ≤ at_ ∧ scanF R cnt E (cnt + 1) 0 0 = acc ++ scanF R cnt E f at_ acc.length ∧ OwnR wr w.heap.size vo acc ∧ Below w.heap.size w wr) (fun _ va _ => cnt - (intOf va).toNat)
  case atStart => exact ⟨0, cnt + 1, [], rfl, by omega, by omega, by simp, rfl, OwnR.nil _ _, Below.refl _ _⟩
  case round =>
    obtain ⟨at_, f, acc, rfl, hat, hf, hnum, hscan, hown, hB⟩ := hrel
    obtain ⟨wx, hwx⟩ : ∃ x, x = wr := ⟨_, rfl⟩
    subst hwx
    have HSC := Lib.hid hscan
    clear hscan
    obtain ⟨Ao, co, vso, e5, hoc, hom, hvl, hrow, hrows⟩ := hown.len
    subst e5
    unfold maxLen at hom
    clear hvl hrow hrows
    have hsz := hB.size
    have HOWN := Lib.hid hown
    by_cases hlt : at_ < cnt
    · have g1 : (at_ : Int) < (cnt : Int) := by omega
      obtain ⟨f, rfl⟩ : ∃ f', f = f' + 1 := ⟨f - 1, by omega⟩
      have HEND : Hid ((∀ b, ¬ IsRec R cnt at_ E acc.length b) → scanF R cnt E (cnt + 1) 0 0 = acc) := Lib.hid fun hno => by
        rw [HSC.out, scanF, if_pos hlt, recAt_none hno]
        simp
      have HNX : Hid (∀ b, IsRec R cnt at_ E acc.length b → scanF R cnt E (cnt + 1) 0 0 = (acc ++ [b]) ++ scanF R cnt E f (at_ + partsN b.length) (acc ++ [b]).length) := Lib.hid fun b hb => by
        rw [HSC.out, scanF, if_pos hlt, recAt_some hb, List.length_append]
        simp
      obtain ⟨bA, oA, b0, o0, N0, c0, eA, hbA, hc0, hN1, hN2, hNc, hcm, hcells⟩ := HLD.out at_ hlt
      subst eA
      have d0 : wx.cell? ⟨bA, oA + at_, none⟩ = some (.slice (some ⟨b0, o0, none⟩) N0 c0) := (hB.cell (p := ⟨bA, oA + at_, none⟩) hbA).trans hc0
      obtain ⟨q, hq⟩ : ∃ q, at16 (R at_) 18 = q := ⟨_, rfl⟩
      have hqb : q ≤ 65535 := by rw [← hq]; exact at16_le _ _ (HRl.out _).2
      have hcx := (hcells.below hB).whole
      have HN0 : Hid (Calls Try.prog 29 #[.slice (some ⟨b0, o0 + 18, none⟩) 2 (c0 - 18)] wx fun e w' => e = .returned (.int .i64 (q : Int)) ∧ wx = w') := Lib.hid (by
        have := number_at b0 o0 18 (R at_) (c0 - 18) wx hcx (HRl.out _).2 (by rw [(HRl.out _).1]; decide)
        rw [hq] at this
        exact this)
      have HQ := Lib.hid hq
      have HPQ : Hid (∀ b, IsRec R cnt at_ E acc.length b → partsN b.length = q ∧ 1 ≤ q ∧ q ≤ 35 ∧ at_ + q ≤ cnt) := Lib.hid fun b hb => by
        have h1 := hb.parts
        have h2 := partsN_pos hb.1
        have h3 := partsN_le hb.2.1
        have h4 := hb.2.2.1
        have := HQ.out
        omega
      clear hq hc0 hcells hcx
      by_cases hgood : 1 ≤ q ∧ q ≤ 35 ∧ at_ + q ≤ cnt
      · obtain ⟨q1, q2, q3⟩ := hgood
        have gq3 : (at_ : Int) + (q : Int) ≤ (cnt : Int) := by omega
        go_wp2_with (first | (go_at_call 29; refine HN0.out.mono ?_; rintro e w4 ⟨rfl, rfl⟩) | (go_at_call 30; refine (HP35.out _).mono ?_; rintro e w4 ⟨rfl, rfl⟩))
        go_loopw [8, 9] (fun vb vk wr => ∃ (k : Nat) (Ab : Option Addr) (nb cb : Nat), vk = .int .i64 k ∧ k ≤ q ∧ vb = .slice Ab nb cb ∧ Hid (nb = (gather R at_ k).length) ∧ Own wr wx.heap.size vb (gather R at_ k) ∧ Below wx.heap.size wx wr) (fun _ vk _ => q - (intOf vk).toNat)
        case atStart => exact ⟨0, none, 0, 0, rfl, by omega, rfl, Lib.hid (by simp [gather]), own_as (Own.nil _ _) (by simp [gather]), Below.refl _ _⟩
        case round =>
          obtain ⟨k, Ab, nb, cb, rfl, hk, rfl, HNB, hownb, hBx⟩ := hrel
          have hsx := hBx.size
          have hBw := hB.trans (hBx.mono hsz)
          by_cases hkq : k < q
          · obtain ⟨bA', oA', b1, o1, N1, c1, eA, hbA', hc1, hM1, hM2, hMc, hcm1, hcells1⟩ := HLD.out (at_ + k) (by omega)
            injection eA with eA
            injection eA with eA1 eA2
            subst eA1 eA2
            have d1 : wr.cell? ⟨bA, oA + (at_ + k), none⟩ = some (.slice (some ⟨b1, o1, none⟩) N1 c1) := (hBw.cell (p := ⟨bA, oA + (at_ + k), none⟩) hbA).trans hc1
            have hcx1 := (hcells1.below hBw).whole
            obtain ⟨m, hm⟩ : ∃ m, at16 (R (at_ + k)) 20 = m := ⟨_, rfl⟩
            have hmb : m ≤ 65535 := by rw [← hm]; exact at16_le _ _ (HRl.out _).2
            have HN1 : Hid (Calls Try.prog 29 #[.slice (some ⟨b1, o1 + 20, none⟩) 2 (c1 - 20)] wr fun e w' => e = .returned (.int .i64 (m : Int)) ∧ wr = w') := Lib.hid (by
              have := number_at b1 o1 20 (R (at_ + k)) (c1 - 20) wr hcx1 (HRl.out _).2 (by rw [(HRl.out _).1]; decide)
              rw [hm] at this
              exact this)
            have HM := Lib.hid hm
            clear hm hc1 hcells1
            have gk : (k : Int) < (q : Int) := by omega
            have htn : ((at_ : Int) + (k : Int)).toNat = at_ + k := by omega
            by_cases hm234 : m ≤ 234
            · have hbl : (body (R (at_ + k))).length = m := by
                unfold body
                rw [HM.out, List.length_take, List.length_drop, (HRl.out (at_ + k)).1]
                omega
              have hcb : Cells wr wr.heap.size (some ⟨b1, o1 + 22, none⟩) (U8 (body (R (at_ + k)))) := by
                have := (hcx1.subU 22).takeU m
                rw [show body (R (at_ + k)) = ((R (at_ + k)).drop 22).take m by unfold body; rw [HM.out]]
                exact this
              have hgl : (gather R at_ k).length ≤ 100000 := gather_le HRl k (by omega)
              have e22 : ((22 : Int) + (m : Int)).toNat - 22 = m := by omega
              go_wp2_with (first | (go_at_call 29; refine HN1.out.mono ?_; rintro e w4 ⟨rfl, rfl⟩) | (at_builtin; refine app_any rfl (.tmp 55) (.tmp 64) rfl wx.heap.size _ (gather R at_ k) rfl hownb wr.heap.size (some ⟨b1, o1 + 22, none⟩) (c1 - 22) (body (R (at_ + k))) (by rw [hbl]; rfl) hcb (by rw [hbl]; omega) hsx ?_; intro v5 w5 hown5 hg5))
              have hown5' := own_as hown5 (gather_succ R at_ k).symm
              have hB5 := hBx.trans (hg5.below hownb hsx)
              obtain ⟨A5, c5, e5, _⟩ := hown5'.shape
              subst e5
              go_roundw
              case rel => exact ⟨k + 1, A5, _, c5, by go_num, by omega, rfl, Lib.hid rfl, hown5', hB5⟩
              case measure => simp [intOf]; omega
            · have gm : (234 : Int) < (m : Int) := by omega
              have HE : Hid (scanF R cnt E (cnt + 1) 0 0 = acc) := Lib.hid (HEND.out fun b hb => by
                have h1 := HPQ.out b hb
                have h2 := hb.n_ (k := k) (by omega)
                have := HM.out
                omega)
              go_wp2_with (go_at_call 29; refine HN1.out.mono ?_; rintro e w4 ⟨rfl, rfl⟩)
              go_ret
              exact ⟨_, rfl, by rw [HE.out]; exact HOWN.out.below hBx, hBw⟩
          · have hk2 : k = q := by omega
            subst hk2
            obtain ⟨wy, hwy⟩ : ∃ x, x = wr := ⟨_, rfl⟩
            subst hwy
            obtain ⟨bl, hbl⟩ : ∃ l, gather R at_ k = l := ⟨_, rfl⟩
            have hbo : Oct bl := by rw [← hbl]; exact gather_oct HRl k
            have hgl : bl.length ≤ 100000 := by rw [← hbl]; exact gather_le HRl k (by omega)
            rw [hbl] at hownb HNB
            have hnb := HNB.out
            subst hnb
            have HREC : Hid (∀ b, IsRec R cnt at_ E acc.length b → b = bl) := Lib.hid fun b hb => by
              have h1 := (HPQ.out b hb).1
              have h3 := hb.gather_
              rw [h1, hbl] at h3
              exact h3.symm
            obtain ⟨Ab', cb', eb, hb1, hb2, hbcells⟩ := hownb.shape
            injection eb with eb1 eb2 eb3
            subst eb1 eb3
            unfold maxLen at hb2
            clear hbl
            have gk : ¬ (k : Int) < (k : Int) := by omega
            by_cases hlong : 8000 < bl.length
            · have gl : (8000 : Int) < (bl.length : Int) := by omega
              have HE : Hid (scanF R cnt E (cnt + 1) 0 0 = acc) := Lib.hid (HEND.out fun b hb => by
                have h1 := HREC.out b hb
                have h2 := hb.2.1
                rw [h1] at h2
                omega)
              go_wp2
              go_ret
              exact ⟨_, rfl, by rw [HE.out]; exact HOWN.out.below hBx, hBw⟩
            · have gl : ¬ (8000 : Int) < (bl.length : Int) := by omega
              obtain ⟨pn, hpn⟩ : ∃ pn, partsN bl.length = pn := ⟨_, rfl⟩
              have HPb : Hid (∀ w : World, Calls Try.prog 30 #[.int .i64 bl.length] w fun e w' => e = .returned (.int .i64 pn) ∧ w = w') := Lib.hid fun w => by
                have := HP.out bl.length w (by omega)
                rw [hpn] at this
                exact this
              have HPN := Lib.hid hpn
              clear hpn
              by_cases hpk : pn = k
              · subst hpk
                have HSE := Lib.hid (rsectors_any E at_ acc.length Ab bl cb wy hE0 hE1 (by omega) (by omega) hgl hb1 (by omega) hbcells hbo)
                go_wp2_with fail
                refine (HPb.out _).mono ?_
                rintro e w4 ⟨rfl, rfl⟩
                go_wp2_with fail
                refine HSE.out.mono ?_
                rintro e w5 ⟨vl, rfl, hownl, hb5⟩
                rw [HPN.out] at hownl
                obtain ⟨Al, cl, vsl, el, _, _, hcellsl, hrowsl⟩ := hownl.shape
                rw [secsOf_len] at el
                subst el
                have hvll := hrowsl.len
                rw [secsOf_len] at hvll
                have HVLL := Lib.hid hvll
                clear hvll
                have hB5 := hBw.trans (hb5.mono (Nat.le_trans hsz hsx))
                have hsy := Nat.le_trans hsz hsx
                have hs5 := hb5.size
                go_wp2
                go_loopw [12] (fun x wr => ∃ j : Nat, x = .int .i64 j ∧ j ≤ pn ∧ Below w5.heap.size w5 wr ∧ (∀ p, p < j → R (at_ + p) = jsec E (at_ + p) acc.length p bl)) (fun x _ => pn - (intOf x).toNat)
                case atStart => exact ⟨0, rfl, by omega, Below.refl _ _, fun p hp => absurd hp (by omega)⟩
                case round =>
                  obtain ⟨j, rfl, hj, hbj, hall⟩ := hrel
                  have HALL := Lib.hid hall
                  clear hall
                  have hsj := hbj.size
                  have hBj := hB5.trans (hbj.mono (Nat.le_trans hsy hs5))
                  have hBxj : Below wx.heap.size wx wr := (hBx.trans (hb5.mono hsx)).trans (hbj.mono (Nat.le_trans hsx hs5))
                  by_cases hjp : j < pn
                  · have gj : (j : Int) < (pn : Int) := by omega
                    obtain ⟨bA', oA', b1, o1, N1, c1, eA, hbA', hc1, hM1, hM2, hMc, hcm1, hcells1⟩ := HLD.out (at_ + j) (by omega)
                    injection eA with eA
                    injection eA with eA1 eA2
                    subst eA1 eA2
                    have d1 : wr.cell? ⟨bA, oA + (at_ + j), none⟩ = some (.slice (some ⟨b1, o1, none⟩) N1 c1) := (hBj.cell (p := ⟨bA, oA + (at_ + j), none⟩) hbA).trans hc1
                    have hcx1 := (hcells1.below hBj).whole
                    have hRl := HRl.out (at_ + j)
                    obtain rfl : N1 = (R (at_ + j)).length := by omega
                    have hsl := secsOf_len E at_ acc.length bl pn
                    have hvj : j < vsl.length := by rw [HVLL.out]; exact hjp
                    have hrj := hrowsl.at_ j hvj (by rw [hsl]; exact hjp)
                    rw [show (secsOf E at_ acc.length bl pn)[j]'(by rw [hsl]; exact hjp) = jsec E (at_ + j) acc.length j bl by simp [secsOf]] at hrj
                    obtain ⟨Aj, cj, ej, hyj, _, _, _⟩ := hrj
                    obtain ⟨bL, oL, eL, hbL, hcL⟩ := hcellsl j _ (List.getElem?_eq_getElem hvj)
                    subst eL
                    rw [ej] at hcL
                    have d2 : wr.cell? ⟨bL, oL + j, none⟩ = some (.slice Aj (jsec E (at_ + j) acc.length j bl).length cj) := (hbj.cell (p := ⟨bL, oL + j, none⟩) hbL).trans hcL
                    have hcxj := (hyj.1.below hbj).whole
                    have htn : ((at_ : Int) + (j : Int)).toNat = at_ + j := by omega
                    have hlx : (jsec E (at_ + j) acc.length j bl).length ≤ 100000000 := by rw [jsec_len]; decide
                    have hbAr : bA < wr.heap.size := Nat.lt_of_lt_of_le hbA hBj.size
                    have hbLr : bL < wr.heap.size := Nat.lt_of_lt_of_le hbL hsj
                    obtain ⟨y, hy⟩ : ∃ y, jsec E (at_ + j) acc.length j bl = y := ⟨_, rfl⟩
                    obtain ⟨r, hr⟩ : ∃ r, R (at_ + j) = r := ⟨_, rfl⟩
                    rw [hy] at d2 hcxj hlx
                    rw [hr] at d1 hcx1
                    have HS : Hid (∀ w' : World, Below wr.heap.size wr w' → Calls Try.prog 32 #[.slice Aj y.length cj, .slice (some ⟨b1, o1, none⟩) r.length c1] w' fun e w'' => e = .returned (.bool (sameB y r)) ∧ Below w'.heap.size w' w'') := Lib.hid fun w' hb' => same_b Aj (some ⟨b1, o1, none⟩) y r cj c1 w' ((hcxj.below hb').whole) ((hcx1.below hb').whole) hlx
                    have HY := Lib.hid hy
                    have HR := Lib.hid hr
                    clear hy hr hc1 hcells1 hRl hcL ej hyj hsl hM1 hM2 hMc
                    by_cases heq : y = r
                    · have HEQ : Hid (R (at_ + j) = jsec E (at_ + j) acc.length j bl) := Lib.hid (by rw [HY.out, HR.out]; exact heq.symm)
                      rw [show sameB y r = true by unfold sameB; exact decide_eq_true heq] at HS
                      clear heq
                      have hi0 : (0 : Int) ≤ (at_ : Int) + (j : Int) := by omega
                      have hi1 : (at_ : Int) + (j : Int) < (cnt : Int) := by omega
                      have hws : IntKind.i64.wrap ((at_ : Int) + (j : Int)) = (at_ : Int) + (j : Int) := by rw [IntKind.wrap_i64]; omega
                      go_wp2
                      go_region_held3 (fun w' => w'.cell? ⟨bA, oA + (at_ + j), none⟩ = some (.slice (some ⟨b1, o1, none⟩) r.length c1) ∧ w'.cell? ⟨bL, oL + j, none⟩ = some (.slice Aj y.length cj)) (go_keep)
                        (first | (go_at_call 32; refine (HS.out _ (by exact (Below.refl _ _).drew)).mono ?_; rintro e w8 ⟨rfl, hb8⟩; have z1 : w8.cell? ⟨bA, oA + (at_ + j), none⟩ = some (.slice (some ⟨b1, o1, none⟩) r.length c1) := (hb8.cell (p := ⟨bA, oA + (at_ + j), none⟩) (by exact hbAr)).trans d1; have z2 : w8.cell? ⟨bL, oL + j, none⟩ = some (.slice Aj y.length cj) := (hb8.cell (p := ⟨bL, oL + j, none⟩) (by exact hbLr)).trans d2))
                      all_goals
                        clear hws
                        go_wp2
                        go_roundw
                        case rel => exact ⟨j + 1, by go_num, by omega, hbj.drew.trans (hb8.mono hsj), fun p hp => by
                          rcases Nat.lt_or_ge p j with h1 | h1
                          · exact HALL.out p h1
                          · obtain rfl : p = j := by omega
                            exact HEQ.out⟩
                        case measure => simp [intOf]; omega
                    · have HE : Hid (scanF R cnt E (cnt + 1) 0 0 = acc) := Lib.hid (HEND.out fun b hb => by
                        have h1 := HREC.out b hb
                        have h2 := hb.2.2.2 j (by rw [h1, HPN.out]; exact hjp)
                        rw [h1, HY.out, HR.out] at h2
                        exact heq h2.symm)
                      rw [show sameB y r = false by unfold sameB; exact decide_eq_false heq] at HS
                      clear heq
                      have hi0 : (0 : Int) ≤ (at_ : Int) + (j : Int) := by omega
                      have hi1 : (at_ : Int) + (j : Int) < (cnt : Int) := by omega
                      have hws : IntKind.i64.wrap ((at_ : Int) + (j : Int)) = (at_ : Int) + (j : Int) := by rw [IntKind.wrap_i64]; omega
                      go_wp2
                      go_region_held3 (fun w' => w'.cell? ⟨bA, oA + (at_ + j), none⟩ = some (.slice (some ⟨b1, o1, none⟩) r.length c1) ∧ w'.cell? ⟨bL, oL + j, none⟩ = some (.slice Aj y.length cj)) (go_keep)
                        (first | (go_at_call 32; refine (HS.out _ (by exact (Below.refl _ _).drew)).mono ?_; rintro e w8 ⟨rfl, hb8⟩; have z1 : w8.cell? ⟨bA, oA + (at_ + j), none⟩ = some (.slice (some ⟨b1, o1, none⟩) r.length c1) := (hb8.cell (p := ⟨bA, oA + (at_ + j), none⟩) (by exact hbAr)).trans d1; have z2 : w8.cell? ⟨bL, oL + j, none⟩ = some (.slice Aj y.length cj) := (hb8.cell (p := ⟨bL, oL + j, none⟩) (by exact hbLr)).trans d2))
                      all_goals
                        clear hws
                        go_wp2
                        go_ret
                        exact ⟨_, rfl, by rw [HE.out]; exact (HOWN.out.below hBxj).below ((Below.refl _ _).drew.trans hb8), hBj.drew.trans (hb8.mono hBj.size)⟩
                  · have gj : ¬ (j : Int) < (pn : Int) := by omega
                    have hyes : IsRec R cnt at_ E acc.length bl := by
                      have hp := HPN.out
                      refine ⟨?_, by omega, by rw [hp]; exact q3, fun p hp' => HALL.out p (by omega)⟩
                      rcases Nat.eq_zero_or_pos bl.length with e | e
                      · rw [e] at hp
                        simp [partsN] at hp
                        omega
                      · exact e
                    have HNX' := Lib.hid (HNX.out bl hyes)
                    clear hyes
                    have hoN := HOWN.out.below hBxj
                    have hrv := (hownb.rowV hbo).keep (BK.of_below (hb5.trans (hbj.mono hs5)))
                    obtain ⟨vs4, hr4, hv4⟩ := hoN
                    have hl4 := hv4.len
                    rw [hl4] at hr4
                    have hr4' := World.ownsRow.alloc hr4 (.cells #[.slice Ab bl.length cb] 27)
                    have HL4 := Lib.hid hl4
                    clear hl4
                    have hsr := hBj.size
                    go_wp2_with (at_builtin; refine appG_anyS Try.underlying22 info_rows rfl (by decide) rfl (.tmp 101) (.tmp 103) rfl w.heap.size _ acc.length vs4 rfl hr4' _ _ 1 1 [.slice Ab bl.length cb] rfl (cells_blk wr _ _) (by simp) (by intro u hu; simp at hu; subst hu; rfl) (by unfold maxLen; omega) (by omega) (by simp; omega) ?_; intro A6 c6 w6 hrow6 hg6)
                    have hba : Below wr.heap.size wr (wr.alloc (.cells #[.slice Ab bl.length cb] 27)) := (Below.refl _ _).alloc (Nat.le_refl _) _
                    have hbg := grew_low hg6 hr4' (by simp; omega)
                    have hownN : OwnR w6 w.heap.size _ (acc ++ [bl]) := OwnR.snoc hr4' (hv4.keep (BK.of_below hba)) (hrv.keep (BK.of_below hba)) hrow6 hg6
                    go_roundw
                    case rel => exact ⟨at_ + pn, f, acc ++ [bl], by go_num, by omega, by omega, by simp; omega, by have := HNX'.out; rw [HPN.out] at this; exact this, by simpa using hownN, hBj.trans ((hba.mono hsr).trans hbg)⟩
                    case measure => simp [intOf]; omega
              · have gne1 : ((pn : Int) == (k : Int)) = false := by simp; omega
                have gne2 : ((pn : Int) != (k : Int)) = true := by simp; omega
                have HE : Hid (scanF R cnt E (cnt + 1) 0 0 = acc) := Lib.hid (HEND.out fun b hb => by
                  have h1 := HREC.out b hb
                  have h2 := (HPQ.out b hb).1
                  rw [h1, HPN.out] at h2
                  exact hpk h2)
                go_wp2_with (go_at_call 30; refine (HPb.out _).mono ?_; rintro e w4 ⟨rfl, rfl⟩)
                go_ret
                exact ⟨_, rfl, by rw [HE.out]; exact HOWN.out.below hBx, hBw⟩
      · have hbad : q < 1 ∨ (1 ≤ q ∧ 35 < q) ∨ ((1 ≤ q ∧ q ≤ 35) ∧ cnt < at_ + q) := by omega
        have HE : Hid (scanF R cnt E (cnt + 1) 0 0 = acc) := Lib.hid (HEND.out fun b hb => hgood (HPQ.out b hb).2)
        clear hgood
        rcases hbad with x1 | ⟨x1, x2⟩ | ⟨⟨x1, x2⟩, x3⟩
        · go_wp2_with (first | (go_at_call 29; refine HN0.out.mono ?_; rintro e w4 ⟨rfl, rfl⟩) | (go_at_call 30; refine (HP35.out _).mono ?_; rintro e w4 ⟨rfl, rfl⟩))
          go_ret
          exact ⟨_, rfl, by rw [HE.out]; exact hown, hB⟩
        · go_wp2_with (first | (go_at_call 29; refine HN0.out.mono ?_; rintro e w4 ⟨rfl, rfl⟩) | (go_at_call 30; refine (HP35.out _).mono ?_; rintro e w4 ⟨rfl, rfl⟩))
          go_ret
          exact ⟨_, rfl, by rw [HE.out]; exact hown, hB⟩
        · have gx : (cnt : Int) < (at_ : Int) + (q : Int) := by omega
          go_wp2_with (first | (go_at_call 29; refine HN0.out.mono ?_; rintro e w4 ⟨rfl, rfl⟩) | (go_at_call 30; refine (HP35.out _).mono ?_; rintro e w4 ⟨rfl, rfl⟩))
          go_ret
          exact ⟨_, rfl, by rw [HE.out]; exact hown, hB⟩
    · have g1 : ¬ (at_ : Int) < (cnt : Int) := by omega
      have HE : Hid (scanF R cnt E (cnt + 1) 0 0 = acc) := Lib.hid (by
        rw [HSC.out]
        cases f with
        | zero => simp [scanF]
        | succ f =>
          rw [scanF, if_neg hlt]
          simp)
      go_wp2
      go_ret
      exact ⟨_, rfl, by rw [HE.out]; exact hown, hB⟩
end Go.Proofs.Ytcgnfkiimnpdcaa
